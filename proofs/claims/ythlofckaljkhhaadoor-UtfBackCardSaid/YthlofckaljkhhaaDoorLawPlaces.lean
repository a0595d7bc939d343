/- UtfPlaces: ahead of the place at which bytes are not right they are; the law's walk: it returns true. -/
import Derived.Test.YthlofckaljkhhaaDoorApp
namespace Go.Proofs.YthlofckaljkhhaaDoor
open Go.RowKit Go.Lib

theorem Byt.head {w : World} {p : Option Addr} {n cap k : Nat} {s : ByteArray} (h : Byt w p n cap s) (hk : k ≤ n) : Byt w p k cap (s.extract 0 k) := by
  obtain ⟨h1, h2, h3, h4⟩ := h
  have hs : (s.extract 0 k).size = k := by simp [ByteArray.size_extract]; omega
  refine ⟨hs.symm, by omega, h3, ?_⟩
  rcases h4 with h4 | ⟨b, off, hp, hB, hc⟩
  · exact Or.inl (by omega)
  · refine Or.inr ⟨b, off, hp, hB, fun j hj => ?_⟩
    rw [hs] at hj
    rw [hc j (by omega)]
    have e : (s.extract 0 k).get! j = s.get! j := by
      have e1 := get_at (s.extract 0 k) j (by omega)
      have e2 := get_at s j (by omega)
      simp only [Nat.add_zero] at e1 e2
      rw [e1, e2]
      simp [ByteArray.getElem_extract]
    rw [e]

theorem head_get (s : ByteArray) (k : Nat) (hk : k ≤ s.size) : ∀ j, j < (s.extract 0 k).size → (s.extract 0 k).get! j = s.get! j := fun j hj => by
  have hs : (s.extract 0 k).size = k := by simp [ByteArray.size_extract]; omega
  have e1 := get_at (s.extract 0 k) j hj
  have e2 := get_at s j (by omega)
  simp only [Nat.add_zero] at e1 e2
  rw [e1, e2]
  simp [ByteArray.getElem_extract]

set_option maxRecDepth 100000 in
set_option maxHeartbeats 2000000 in
theorem places_no (p : Option Addr) (n cap N : Nat) (E c : Int) (w : World) (hE : Env w) (hf : fineB c = false) (hnc : n ≤ cap) (_hm : cap ≤ 9223372036854775807)
    (h1 : (N < n ∧ E = 4) ∨ (N = n ∧ E = 0))
    (hC : ∀ w1, Below w.heap.size w w1 → Calls Tryd.prog 10 #[.slice p n cap] w1 fun e w' => e = .returned (.tuple #[.int .i64 N, .int .i64 E]) ∧ Below w1.heap.size w1 w')
    (hD : ∀ w1, Below w.heap.size w w1 → Calls Tryd.prog 10 #[.slice p N cap] w1 fun e w' => e = .returned (.tuple #[.int .i64 N, .int .i64 0]) ∧ Below w1.heap.size w1 w')
    (hR : N < n → ∀ w1, Below w.heap.size w w1 → Calls Tryd.prog 9 #[.slice p n cap, .int .i64 N] w1 fun e w' => e = .returned (.tuple #[.int .i64 0, .int .i64 0, .int .i64 4]) ∧ Below w1.heap.size w1 w') :
    Calls Tryd.prog 7 #[.slice p n cap, .int .i64 c] w fun e w' => e = .returned (.bool true) ∧ Below w.heap.size w w' := by
  have hma : Option.map (fun x : Addr => x.add 0) p = p := by cases p <;> simp [Addr.add]
  have HE := Lib.hid hE
  have HF := Lib.hid hf
  have HC := Lib.hid hC
  have HD := Lib.hid hD
  have HR := Lib.hid hR
  clear hE hf hC hD hR
  rcases h1 with ⟨h1, rfl⟩ | ⟨rfl, rfl⟩
  · have hne : ((N : Int) == (n : Int)) = false := by rw [beq_eq_false_iff_ne]; omega
    go_enter Tryd.func7, Tryd.ntmps7
    go_wp2_with fail
    refine (HC.out _ (Below.refl _ _)).mono ?_
    rintro e w1 ⟨rfl, hb⟩
    have HB1 := Lib.hid hb
    clear hb
    go_wp2_with fail
    refine (HD.out _ HB1.out).mono ?_
    rintro e w2 ⟨rfl, hb⟩
    have HB2 := Lib.hid (HB1.out.trans (hb.mono HB1.out.size))
    clear hb
    go_wp2_with fail
    refine (HR.out h1 _ HB2.out).mono ?_
    rintro e w3 ⟨rfl, hb⟩
    have HB3 := Lib.hid (HB2.out.trans (hb.mono HB2.out.size))
    clear hb
    go_wp2_with (first | (go_at_call 20; refine (put_bad c HF.out _).mono ?_; rintro e w' ⟨rfl, rfl⟩) | (go_at_call 12; refine (alive_any _ (HE.out.below HB3.out)).mono ?_; rintro e w' ⟨rfl, hb⟩; have HB := Lib.hid hb; clear hb))
    go_ret
    exact ⟨rfl, HB3.out.trans (HB.out.mono HB3.out.size)⟩
  · go_enter Tryd.func7, Tryd.ntmps7
    go_wp2_with fail
    refine (HC.out _ (Below.refl _ _)).mono ?_
    rintro e w1 ⟨rfl, hb⟩
    have HB1 := Lib.hid hb
    clear hb
    go_wp2_with fail
    refine (HD.out _ HB1.out).mono ?_
    rintro e w2 ⟨rfl, hb⟩
    have HB2 := Lib.hid (HB1.out.trans (hb.mono HB1.out.size))
    clear hb
    go_wp2_with (first | (go_at_call 20; refine (put_bad c HF.out _).mono ?_; rintro e w' ⟨rfl, rfl⟩) | (go_at_call 12; refine (alive_any _ (HE.out.below HB2.out)).mono ?_; rintro e w' ⟨rfl, hb⟩; have HB := Lib.hid hb; clear hb))
    go_ret
    exact ⟨rfl, HB2.out.trans (HB.out.mono HB2.out.size)⟩

/-- what stands behind utf.Put, at a world that this call has come to: all is put together, and looked at -/
def Glued (p : Option Addr) (n cap : Nat) (B : Nat) (E : Int) (w4 : World) (q : Option Addr) (m d : Nat) : Prop :=
  ∃ v1 wa p2 c2 wb, (Builtin.append_ #[22, 22] 22 #[.slice (some ⟨w4.heap.size, 0, none⟩) 0 0, .slice q m d]).run Tryd.prog (w4.alloc (.cells #[] 5)) = .ok v1 wa ∧
    (Builtin.append_ #[22, 22] 22 #[v1, .slice p n cap]).run Tryd.prog wa = .ok (.slice p2 (m + n) c2) wb ∧ Below w4.heap.size w4 wb ∧
    Calls Tryd.prog 10 #[.slice p2 (m + n) c2] wb fun e w' => e = .returned (.tuple #[.int .i64 B, .int .i64 E]) ∧ Below wb.heap.size wb w'

set_option maxRecDepth 100000 in
set_option maxHeartbeats 2000000 in
theorem places_yes (p : Option Addr) (n cap N : Nat) (E c : Int) (w : World) (hE : Env w) (hf : fineB c = true) (hnc : n ≤ cap) (_hm : cap ≤ 9223372036854775807) (hsm : n ≤ 140737488351232)
    (h1 : (N < n ∧ E = 4) ∨ (N = n ∧ E = 0))
    (hC : ∀ w1, Below w.heap.size w w1 → Calls Tryd.prog 10 #[.slice p n cap] w1 fun e w' => e = .returned (.tuple #[.int .i64 N, .int .i64 E]) ∧ Below w1.heap.size w1 w')
    (hD : ∀ w1, Below w.heap.size w w1 → Calls Tryd.prog 10 #[.slice p N cap] w1 fun e w' => e = .returned (.tuple #[.int .i64 N, .int .i64 0]) ∧ Below w1.heap.size w1 w')
    (hR : N < n → ∀ w1, Below w.heap.size w w1 → Calls Tryd.prog 9 #[.slice p n cap, .int .i64 N] w1 fun e w' => e = .returned (.tuple #[.int .i64 0, .int .i64 0, .int .i64 4]) ∧ Below w1.heap.size w1 w')
    (hG : ∀ w4 g d, Below w.heap.size w w4 → Byt w4 (some ⟨g, 0, none⟩) (putZ c).length d (putS c) → Glued p n cap ((putZ c).length + N) E w4 (some ⟨g, 0, none⟩) (putZ c).length d) :
    Calls Tryd.prog 7 #[.slice p n cap, .int .i64 c] w fun e w' => e = .returned (.bool true) ∧ Below w.heap.size w w' := by
  have hma : Option.map (fun x : Addr => x.add 0) p = p := by cases p <;> simp [Addr.add]
  have HE := Lib.hid hE
  have HF := Lib.hid hf
  have HC := Lib.hid hC
  have HD := Lib.hid hD
  have HR := Lib.hid hR
  have HG := Lib.hid hG
  have hpp := putZ_pos c
  clear hE hf hC hD hR hG
  have hcase : (N < n ∧ E = 4 ∧ ((N : Int) == (n : Int)) = false) ∨ (N = n ∧ E = 0) := by
    rcases h1 with ⟨h1, h2⟩ | h1
    · exact Or.inl ⟨h1, h2, by rw [beq_eq_false_iff_ne]; omega⟩
    · exact Or.inr h1
  clear h1
  have hN : N ≤ n := by rcases hcase with ⟨h, _⟩ | ⟨h, _⟩ <;> omega
  -- up to utf.Put
  have fin : ∀ (w3 : World), Below w.heap.size w w3 → Calls Tryd.prog 20 #[.int .i64 c] w3 (PutAt c w3) := fun w3 _ => put_at c HF.out w3
  have FIN := Lib.hid fin
  clear fin
  rcases hcase with ⟨h1, rfl, hne⟩ | ⟨rfl, rfl⟩
  · go_enter Tryd.func7, Tryd.ntmps7
    go_wp2_with fail
    refine (HC.out _ (Below.refl _ _)).mono ?_
    rintro e w1 ⟨rfl, hb⟩
    have HB1 := Lib.hid hb
    clear hb
    go_wp2_with fail
    refine (HD.out _ HB1.out).mono ?_
    rintro e w2 ⟨rfl, hb⟩
    have HB2 := Lib.hid (HB1.out.trans (hb.mono HB1.out.size))
    clear hb
    go_wp2_with fail
    refine (HR.out h1 _ HB2.out).mono ?_
    rintro e w3 ⟨rfl, hb⟩
    have HB3 := Lib.hid (HB2.out.trans (hb.mono HB2.out.size))
    clear hb
    go_wp2_with fail
    refine (FIN.out w3 HB3.out).mono ?_
    rintro e w4 ⟨g, d, cur, rfl, hg, hb, hh, hn, hdm, hsz, hta⟩
    have HB4 := Lib.hid (HB3.out.trans (hb.mono HB3.out.size))
    obtain ⟨v1, wa, p2, c2, wb, hr1, hr2, hbb, hcc⟩ := HG.out w4 g d HB4.out (byt_put hh hn hdm hta)
    have HB5 := Lib.hid (HB4.out.trans (hbb.mono HB4.out.size))
    have HCC := Lib.hid hcc
    have HR1 := Lib.hid hr1
    have HR2 := Lib.hid hr2
    clear hb hh hta hsz hbb hcc hr1 hr2
    obtain ⟨m, hmm⟩ : ∃ m, (putZ c).length = m := ⟨_, rfl⟩
    rw [hmm] at hpp HR1 HR2 HCC hn ⊢
    clear hmm
    go_wp2_with (at_builtin; first | (refine wpList_append_run (.tmp 72) (.tmp 73) 22 rfl rfl rfl rfl rfl HR1.out ?_) | (refine wpList_append_run (.tmp 74) (.tmp 75) 22 rfl rfl rfl rfl rfl HR2.out ?_))
    refine HCC.out.mono ?_
    rintro e w5 ⟨rfl, hb⟩
    have HB6 := Lib.hid (HB5.out.trans (hb.mono HB5.out.size))
    clear hb
    go_wp2_with (go_at_call 12; refine (alive_any _ (HE.out.below HB6.out)).mono ?_; rintro e w' ⟨rfl, hb⟩; have HB := Lib.hid hb; clear hb)
    go_ret
    exact ⟨ret_bool (by rw [beq_iff_eq]; omega), HB6.out.trans (HB.out.mono HB6.out.size)⟩
  · go_enter Tryd.func7, Tryd.ntmps7
    go_wp2_with fail
    refine (HC.out _ (Below.refl _ _)).mono ?_
    rintro e w1 ⟨rfl, hb⟩
    have HB1 := Lib.hid hb
    clear hb
    go_wp2_with fail
    refine (HD.out _ HB1.out).mono ?_
    rintro e w3 ⟨rfl, hb⟩
    have HB3 := Lib.hid (HB1.out.trans (hb.mono HB1.out.size))
    clear hb
    go_wp2_with fail
    refine (FIN.out w3 HB3.out).mono ?_
    rintro e w4 ⟨g, d, cur, rfl, hg, hb, hh, hn, hdm, hsz, hta⟩
    have HB4 := Lib.hid (HB3.out.trans (hb.mono HB3.out.size))
    obtain ⟨v1, wa, p2, c2, wb, hr1, hr2, hbb, hcc⟩ := HG.out w4 g d HB4.out (byt_put hh hn hdm hta)
    have HB5 := Lib.hid (HB4.out.trans (hbb.mono HB4.out.size))
    have HCC := Lib.hid hcc
    have HR1 := Lib.hid hr1
    have HR2 := Lib.hid hr2
    clear hb hh hta hsz hbb hcc hr1 hr2
    obtain ⟨m, hmm⟩ : ∃ m, (putZ c).length = m := ⟨_, rfl⟩
    rw [hmm] at hpp HR1 HR2 HCC hn ⊢
    clear hmm
    go_wp2_with (at_builtin; first | (refine wpList_append_run (.tmp 72) (.tmp 73) 22 rfl rfl rfl rfl rfl HR1.out ?_) | (refine wpList_append_run (.tmp 74) (.tmp 75) 22 rfl rfl rfl rfl rfl HR2.out ?_))
    refine HCC.out.mono ?_
    rintro e w5 ⟨rfl, hb⟩
    have HB6 := Lib.hid (HB5.out.trans (hb.mono HB5.out.size))
    clear hb
    go_wp2_with (go_at_call 12; refine (alive_any _ (HE.out.below HB6.out)).mono ?_; rintro e w' ⟨rfl, hb⟩; have HB := Lib.hid hb; clear hb)
    go_ret
    exact ⟨ret_bool (by rw [beq_iff_eq]; omega), HB6.out.trans (HB.out.mono HB6.out.size)⟩

theorem err_at (s : ByteArray) : (badAt s < s.size ∧ errAt s = 4) ∨ (badAt s = s.size ∧ errAt s = 0) := by
  have h := badAt_le s
  unfold errAt
  by_cases h1 : badAt s < s.size
  · exact Or.inl ⟨h1, by rw [if_pos h1]⟩
  · exact Or.inr ⟨by omega, by rw [if_neg h1]⟩

/-- both texts, one behind the other -/
def glue (c : Int) (s : ByteArray) : ByteArray := ⟨((putS c).data.toList ++ s.data.toList).toArray⟩
theorem glue_size (c : Int) (s : ByteArray) : (glue c s).size = (putZ c).length + s.size := by
  show ((putS c).data.toList ++ s.data.toList).length = _
  rw [List.length_append, Array.length_toList, Array.length_toList]
  show (putS c).size + s.size = _
  rw [putS_size]
theorem glue_head {c : Int} (h : fineB c = true) (s : ByteArray) (j : Nat) (hj : j < (putZ c).length) : (((glue c s).get! (0 + j)).toNat : Int) = (putZ c).getD j 0 := by
  have hl : j < (putL c).length := by rw [putL_length]; exact hj
  rw [Nat.zero_add]
  unfold glue
  have e : (putS c).data.toList = putL c := rfl
  rw [e, get!_of_list _ j (by rw [List.length_append]; omega), List.getElem_append_left hl]
  have e2 := putS_get h j hj
  unfold putS at e2
  rw [get!_of_list _ j hl] at e2
  rw [e2]
  simp [List.getD, List.getElem?_eq_getElem hj]
theorem glue_tail (c : Int) (s : ByteArray) (j : Nat) (hj : j < s.size) : (glue c s).get! ((putZ c).length + j) = s.get! j := by
  unfold glue
  have e : (putS c).data.toList = putL c := rfl
  have hjl : j < s.data.toList.length := by rw [Array.length_toList]; exact hj
  rw [e, get!_of_list _ _ (by rw [List.length_append, putL_length]; omega), List.getElem_append_right (by rw [putL_length]; omega)]
  have e3 := get_at s j hj
  simp only [Nat.add_zero] at e3
  rw [e3]
  simp only [putL_length, Nat.add_sub_cancel_left]
  rfl

theorem badAt_glue {c : Int} (h : fineB c = true) (s : ByteArray) : badAt (glue c s) = (putZ c).length + badAt s := by
  have h1 := badOn_put h (glue c s) 0 (by rw [glue_size]; omega) (glue_head h s)
  have h2 := badOn_shift s (glue c s) (putZ c).length (glue_size c s) (glue_tail c s) s.size 0 (by omega) (Nat.zero_le _)
  rw [badAt_on, h1, badAt_on, ← h2, Nat.zero_add, Nat.add_zero]
theorem errAt_glue {c : Int} (h : fineB c = true) (s : ByteArray) : errAt (glue c s) = errAt s := by
  unfold errAt
  rw [badAt_glue h, glue_size]
  by_cases h1 : badAt s < s.size
  · rw [if_pos h1, if_pos (by omega)]
  · rw [if_neg h1, if_neg (by omega)]

theorem glued {p : Option Addr} {n cap : Nat} {s : ByteArray} {w w4 : World} {c : Int} (h : fineB c = true) (hS : Byt w p n cap s) (hE : Env w) (hb : Below w.heap.size w w4) (hsm : n ≤ 140737488351232) (g d : Nat)
    (hp : Byt w4 (some ⟨g, 0, none⟩) (putZ c).length d (putS c)) : Glued p n cap ((putZ c).length + badAt s) (errAt s) w4 (some ⟨g, 0, none⟩) (putZ c).length d := by
  have hpp := putZ_pos c
  obtain ⟨v1, wa, p2, c2, wb, h1, h2, h3, h4⟩ := app_two w4 (some ⟨g, 0, none⟩) p (putZ c).length n d cap (putS c) s hp (hS.below hb) (by omega)
  have hE4 := (hE.below hb).below h4
  have hc := check_byt h3 hE4.1 hE4.2
  have e1 := badAt_glue h s
  have e2 := errAt_glue h s
  unfold glue at e1 e2
  rw [e1, e2] at hc
  exact ⟨v1, wa, p2, c2, wb, h1, h2, h4, hc⟩

theorem places_any (s : ByteArray) (p : Option Addr) (n cap : Nat) (c : Int) (w : World) (hE : Env w) (hS : Byt w p n cap s) (hsm : n ≤ 140737488351232) :
    Calls Tryd.prog 7 #[.slice p n cap, .int .i64 c] w fun e w' => e = .returned (.bool true) ∧ Below w.heap.size w w' := by
  have hS' := hS
  obtain ⟨hn, hnc, hm, hor⟩ := hS'
  have hle := badAt_le s
  have h1 : (badAt s < n ∧ errAt s = 4) ∨ (badAt s = n ∧ errAt s = 0) := by
    rcases err_at s with ⟨h, h'⟩ | ⟨h, h'⟩
    · exact Or.inl ⟨by omega, h'⟩
    · exact Or.inr ⟨by omega, h'⟩
  have hC : ∀ w1, Below w.heap.size w w1 → Calls Tryd.prog 10 #[.slice p n cap] w1 fun e w' => e = .returned (.tuple #[.int .i64 (badAt s : Nat), .int .i64 (errAt s)]) ∧ Below w1.heap.size w1 w' := fun w1 hb =>
    check_byt (hS.below hb) (hE.below hb).1 (hE.below hb).2
  have hts : (s.extract 0 (badAt s)).size = badAt s := by simp [ByteArray.size_extract]; omega
  have hcut : badAt (s.extract 0 (badAt s)) = badAt s := by
    have := badAt_cut s (s.extract 0 (badAt s)) hts (head_get s (badAt s) hle)
    rw [this, hts]
  have hD : ∀ w1, Below w.heap.size w w1 → Calls Tryd.prog 10 #[.slice p (badAt s) cap] w1 fun e w' => e = .returned (.tuple #[.int .i64 (badAt s : Nat), .int .i64 0]) ∧ Below w1.heap.size w1 w' := fun w1 hb => by
    have hx := check_byt ((hS.head (k := badAt s) (by omega)).below hb) (hE.below hb).1 (hE.below hb).2
    have e2 : errAt (s.extract 0 (badAt s)) = 0 := by unfold errAt; rw [hcut, hts, if_neg (by omega)]
    rw [hcut, e2] at hx
    exact hx
  have hR : badAt s < n → ∀ w1, Below w.heap.size w w1 → Calls Tryd.prog 9 #[.slice p n cap, .int .i64 (badAt s : Nat)] w1 fun e w' => e = .returned (.tuple #[.int .i64 0, .int .i64 0, .int .i64 4]) ∧ Below w1.heap.size w1 w' := fun hlt w1 hb => by
    rcases hor with h0 | ⟨b, off, rfl, hB, hp⟩
    · omega
    · have hx := rune_in s b off cap (badAt s) n w1 hn (hE.below hb).1 hlt hnc hm (cells_below hb hB hp)
      have e : runeG s (badAt s) = (0, 0, 4) := by simp [runeG, badAt_is s (by omega)]
      rw [e] at hx
      exact hx
  cases hf : fineB c with
  | false => exact places_no p n cap (badAt s) (errAt s) c w hE hf hnc hm h1 hC hD hR
  | true => exact places_yes p n cap (badAt s) (errAt s) c w hE hf hnc hm hsm h1 hC hD hR (fun w4 g d hb hp => glued hf hS hE hb hsm g d hp)
end Go.Proofs.YthlofckaljkhhaaDoor
