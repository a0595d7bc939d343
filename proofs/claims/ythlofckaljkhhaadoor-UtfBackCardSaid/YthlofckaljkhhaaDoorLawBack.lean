/- UtfBack: what is put is read, whatever stands behind it; the law's walk: it returns true. -/
import Derived.Test.YthlofckaljkhhaaDoorLawPlaces
namespace Go.Proofs.YthlofckaljkhhaaDoor
open Go.RowKit Go.Lib

theorem glue_decode {c : Int} (h : fineB c = true) (s : ByteArray) : Utf8.decode (glue c s) 0 = (c.toNat, (putZ c).length) :=
  decode_put h (glue c s) 0 (by rw [glue_size]; omega) (glue_head h s)

/-- cut, it isn't read -/
theorem decode_short {c : Int} (h : fineB c = true) (i : Nat) (h1 : 1 ≤ i) (hi : i < (putZ c).length) : goodD (Utf8.decode ((putS c).extract 0 i) 0) = false := by
  have ht := fineB_top h
  have hm := putS_size c
  have hs : ((putS c).extract 0 i).size = i := by simp [ByteArray.size_extract]; omega
  have g0 : ((((putS c).extract 0 i).get! 0).toNat : Int) = (putZ c)[0]'(by omega) := by
    rw [head_get (putS c) i (by omega) 0 (by omega)]; exact putS_get h 0 (by omega)
  rw [decode_at, hs]
  obtain ⟨b0, hb0⟩ : ∃ b, (((putS c).extract 0 i).get! 0).toNat = b := ⟨_, rfl⟩
  rw [hb0] at g0 ⊢
  have bad : ∀ x : Nat × Nat, x = (65533, 1) → goodD x = false := fun x hx => by rw [hx]; decide
  rw [putZ_len] at hi
  by_cases c1 : c < 128
  · rw [if_pos c1] at hi; omega
  · rw [if_neg c1] at hi
    by_cases c2 : c < 2048
    · rw [if_pos c2] at hi
      have e : (putZ c)[0]'(by have := putZ_pos c; omega) = 192 + c / 64 := by simp [putZ, c1, c2]
      rw [e] at g0
      exact bad _ (by rw [dec2 _ _ _ _ _ (by omega) (by omega), if_neg (by omega)])
    · rw [if_neg c2] at hi
      by_cases c3 : c < 65536
      · rw [if_pos c3] at hi
        have e : (putZ c)[0]'(by have := putZ_pos c; omega) = 224 + c / 4096 := by simp [putZ, c1, c2, c3]
        rw [e] at g0
        exact bad _ (by rw [dec3 _ _ _ _ _ (by omega) (by omega), if_neg (by omega)])
      · rw [if_neg c3] at hi
        have e : (putZ c)[0]'(by have := putZ_pos c; omega) = 240 + c / 262144 := by simp [putZ, c1, c2, c3]
        rw [e] at g0
        exact bad _ (by rw [dec4 _ _ _ _ _ (by omega) (by omega), if_neg (by omega)])

/-- what is read begins with its own first byte -/
theorem good_first (n b0 b1 b2 b3 : Nat) (hb : b0 < 256) (hg : goodD (decodeN n b0 b1 b2 b3) = true) : (putZ (decodeN n b0 b1 b2 b3).1).getD 0 0 = (b0 : Int) := by
  have hr : b0 < 128 ∨ ((128 ≤ b0 ∧ b0 < 192) ∨ 248 ≤ b0) ∨ (192 ≤ b0 ∧ b0 < 224) ∨ (224 ≤ b0 ∧ b0 < 240) ∨ (240 ≤ b0 ∧ b0 < 248) := by omega
  rcases hr with h | h | ⟨h, h'⟩ | ⟨h, h'⟩ | ⟨h, h'⟩
  · rw [dec1 _ _ _ _ _ h]
    have : (b0 : Int) < 128 := by omega
    simp [putZ, this]
  · rw [dec_out _ _ _ _ _ h hb, good_not_bad] at hg
    cases hg
  · rw [dec2 _ _ _ _ _ h h'] at hg ⊢
    split at hg
    · rename_i hc
      rw [if_pos hc]
      simp only [putZ]
      rw [if_neg (by omega), if_pos (by omega)]
      simp; omega
    · rw [good_not_bad] at hg; cases hg
  · rw [dec3 _ _ _ _ _ h h'] at hg ⊢
    split at hg
    · rename_i hc
      rw [if_pos hc]
      simp only [putZ]
      rw [if_neg (by omega), if_neg (by omega), if_pos (by omega)]
      simp; omega
    · rw [good_not_bad] at hg; cases hg
  · rw [dec4 _ _ _ _ _ h h'] at hg ⊢
    split at hg
    · rename_i hc
      rw [if_pos hc]
      simp only [putZ]
      rw [if_neg (by omega), if_neg (by omega), if_neg (by omega)]
      simp; omega
    · rw [good_not_bad] at hg; cases hg


set_option maxRecDepth 100000 in
theorem xor_all : ∀ (a : Fin 256) (k : Fin 8), 0 ≤ bits .xor .u8 ((a.val : Nat) : Int) (2 ^ k.val % 256) ∧ bits .xor .u8 ((a.val : Nat) : Int) (2 ^ k.val % 256) < 256 ∧ bits .xor .u8 ((a.val : Nat) : Int) (2 ^ k.val % 256) ≠ ((a.val : Nat) : Int) := by decide +kernel
theorem xor_turns (b0 : Nat) (bit : Int) (h : b0 ≤ 255) (_h0 : 0 ≤ bit) (_h1 : bit ≤ 255) : ∃ x0 : Nat, bits .xor .u8 (b0 : Int) (2 ^ (bit % 8).toNat % 256) = (x0 : Int) ∧ x0 < 256 ∧ x0 ≠ b0 := by
  have hx := xor_all ⟨b0, by omega⟩ ⟨(bit % 8).toNat, by omega⟩
  simp only at hx
  obtain ⟨h2, h3, h4⟩ := hx
  generalize bits .xor .u8 (b0 : Int) (2 ^ (bit % 8).toNat % 256) = X at *
  exact ⟨X.toNat, by omega, by omega, by omega⟩

/-- the bytes, the first one turned -/
def turnS (c : Int) (x0 : Nat) : ByteArray := ⟨((putL c).set 0 (UInt8.ofNat x0)).toArray⟩
theorem turnS_size (c : Int) (x0 : Nat) : (turnS c x0).size = (putZ c).length := by
  show ((putL c).set 0 (UInt8.ofNat x0)).length = _
  rw [List.length_set, putL_length]
theorem turned {w : World} {g d m : Nat} {cur : Array Value} {c : Int} (hh : w.heap[g]? = some (.cells cur 5 (0, 0))) (hm : (putZ c).length = m) (hn : m ≤ d) (hdm : d ≤ 9223372036854775807) (_hsz : cur.size = d)
    (ht : cur.toList.take (putZ c).length = (putL c).map fun b => Value.int .u8 (b.toNat : Int)) (x0 : Nat) (hx : x0 < 256) :
    Byt (w.setCell ⟨g, 0, none⟩ (.int .u8 x0)) (some ⟨g, 0, none⟩) m d (turnS c x0) := by
  have hh' : (w.setCell ⟨g, 0, none⟩ (.int .u8 x0)).heap[g]? = some (.cells (cur.setIfInBounds 0 (.int .u8 x0)) 5 (0, 0)) := by
    simp [World.setCell, Array.getElem?_modify, hh]
  refine ⟨by rw [turnS_size, hm], hn, hdm, Or.inr ⟨g, 0, rfl, (Array.getElem?_eq_some_iff.1 hh').1, ?_⟩⟩
  refine head_cells (l := (putL c).set 0 (UInt8.ofNat x0)) hh' ?_
  rw [List.length_set, putL_length, Array.toList_setIfInBounds, List.take_set, ht, List.map_set]
  congr 2
  rw [UInt8.toNat_ofNat_of_lt' (by show _ < 256; omega)]

theorem rune_turned {w : World} {g d m b0 : Nat} {c : Int} {x0 : Nat} (hS : Byt w (some ⟨g, 0, none⟩) m d (turnS c x0)) (hE : Env w) (hf : fineB c = true) (hm : (putZ c).length = m) (hb0 : ((putL c).getD 0 0).toNat = b0) (hx : x0 < 256) (hne : x0 ≠ b0) :
    (Calls Tryd.prog 9 #[.slice (some ⟨g, 0, none⟩) m d, .int .i64 0] w fun e w' => e = .returned (.tuple #[.int .i64 0, .int .i64 0, .int .i64 4]) ∧ Below w.heap.size w w') ∨
    ∃ (R : Int) (K : Nat), (Calls Tryd.prog 9 #[.slice (some ⟨g, 0, none⟩) m d, .int .i64 0] w fun e w' => e = .returned (.tuple #[.int .i64 R, .int .i64 K, .int .i64 0]) ∧ Below w.heap.size w w') ∧ R ≠ c ∧ 1 ≤ K ∧ K ≤ m := by
  have hpp := putZ_pos c
  obtain ⟨e1, e2, e3, h0 | ⟨b, off, hbo, hB, hcl⟩⟩ := hS
  · omega
  cases hbo
  have hr := rune_in (turnS c x0) g 0 d 0 m w e1 hE.1 (by omega) e2 e3 hcl
  cases hg : goodD (Utf8.decode (turnS c x0) 0) with
  | false =>
    have e : runeG (turnS c x0) 0 = (0, 0, 4) := by simp [runeG, hg]
    rw [e] at hr
    exact Or.inl hr
  | true =>
    have e : runeG (turnS c x0) 0 = (((Utf8.decode (turnS c x0) 0).1 : Int), ((Utf8.decode (turnS c x0) 0).2 : Int), 0) := by simp [runeG, hg]
    rw [e] at hr
    have hw := width_le (turnS c x0) 0 (by rw [← e1]; omega)
    refine Or.inr ⟨_, _, hr, ?_, hw.1, by omega⟩
    intro hR
    have hg' := hg
    rw [decode_at] at hg'
    have hf1 := good_first _ _ _ _ _ ((turnS c x0).get! 0).toNat_lt hg'
    have hR' : ((Utf8.decode (turnS c x0) 0).1 : Int) = c := hR
    rw [← decode_at, hR'] at hf1
    have hl0 : 0 < (putL c).length := by rw [putL_length]; omega
    have hz0 : 0 < (putZ c).length := by omega
    have hget : ((turnS c x0).get! 0).toNat = x0 := by
      unfold turnS
      rw [get!_of_list _ 0 (by rw [List.length_set]; exact hl0), List.getElem_set_self, UInt8.toNat_ofNat_of_lt' (by show _ < 256; omega)]
    rw [hget] at hf1
    have h5 := putS_get hf 0 hz0
    unfold putS at h5
    rw [get!_of_list _ 0 hl0] at h5
    simp only [List.getD, List.getElem?_eq_getElem hl0, List.getElem?_eq_getElem hz0, Option.getD_some] at hb0 hf1
    rw [hf1, hb0] at h5
    omega

set_option maxRecDepth 100000 in
set_option maxHeartbeats 2000000 in
theorem back_no (p : Option Addr) (n cap : Nat) (c bit : Int) (w : World) (hE : Env w) (hf : fineB c = false) :
    Calls Tryd.prog 5 #[.int .i64 c, .slice p n cap, .int .u8 bit] w fun e w' => e = .returned (.bool true) ∧ Below w.heap.size w w' := by
  have HE := Lib.hid hE
  have HF := Lib.hid hf
  clear hE hf
  go_enter Tryd.func5, Tryd.ntmps5
  go_wp2_with (first | (go_at_call 20; refine (put_bad c HF.out _).mono ?_; rintro e w' ⟨rfl, rfl⟩) | (go_at_call 12; refine (alive_any _ HE.out).mono ?_; rintro e w' ⟨rfl, hb⟩; have HB := Lib.hid hb; clear hb))
  go_ret
  exact ⟨rfl, HB.out⟩

set_option maxRecDepth 100000 in
set_option maxHeartbeats 2000000 in
theorem back_yes (p : Option Addr) (n cap : Nat) (c bit : Int) (s : ByteArray) (w : World) (hE : Env w) (hf : fineB c = true) (hS : Byt w p n cap s) (hsm : n ≤ 140737488351232) (hb0' : 0 ≤ bit) (hb1' : bit ≤ 255) :
    Calls Tryd.prog 5 #[.int .i64 c, .slice p n cap, .int .u8 bit] w fun e w' => e = .returned (.bool true) ∧ Below w.heap.size w w' := by
  have ht := fineB_top hf
  have hpp := putZ_pos c
  have HE := Lib.hid hE
  have HF := Lib.hid hf
  have HS := Lib.hid hS
  clear hE hf hS
  go_enter Tryd.func5, Tryd.ntmps5
  go_wp2_with fail
  refine (put_at c HF.out w).mono ?_
  rintro e w1 ⟨g, d, cur, rfl, hg, hb, hh, hn, hdm, hsz, hta⟩
  have HB1 := Lib.hid hb
  have HH1 := Lib.hid hh
  have HTA := Lib.hid hta
  have HSZ := Lib.hid hsz
  have hP := byt_put hh hn hdm hta
  obtain ⟨v1, wa, p2, c2, w2, hr1, hr2, h3, h4⟩ := app_two w1 (some ⟨g, 0, none⟩) p (putZ c).length n d cap (putS c) s hP (HS.out.below hb) (by omega)
  have HR1 := Lib.hid hr1
  have HR2 := Lib.hid hr2
  have HB2 := Lib.hid h4
  have HE2 := Lib.hid ((HE.out.below hb).below h4)
  have hglt : g < w1.heap.size := (Array.getElem?_eq_some_iff.1 hh).1
  have HH2 : Hid (w2.heap[g]? = some (.cells cur 5 (0, 0))) := (h4.block g hglt).trans hh
  -- the character is read
  have hdec := glue_decode HF.out s
  have hgood := good_put HF.out
  have hrg : runeG (glue c s) 0 = (c, ((putZ c).length : Int), 0) := by
    unfold runeG; rw [hdec, hgood]; simp; omega
  have cR : Calls Tryd.prog 9 #[.slice p2 ((putZ c).length + n) c2, .int .i64 0] w2 fun e w' => e = .returned (.tuple #[.int .i64 c, .int .i64 ((putZ c).length : Nat), .int .i64 0]) ∧ Below w2.heap.size w2 w' := by
    obtain ⟨e1, e2, e3, h0 | ⟨b, off, rfl, hB, hcl⟩⟩ := h3
    · omega
    · have hx := rune_in (glue c s) b off c2 0 ((putZ c).length + n) w2 e1 HE2.out.1 (by omega) e2 e3 hcl
      rw [hrg] at hx
      exact hx
  have HCR := Lib.hid cR
  clear hb hh hta hsz hr1 hr2 h3 h4 hdec hgood hrg cR hP
  obtain ⟨m, hmm⟩ : ∃ m, (putZ c).length = m := ⟨_, rfl⟩
  have HM := Lib.hid hmm
  rw [hmm] at hpp HR1 HR2 HCR hn ⊢
  clear hmm
  go_wp2_with (at_builtin; first | (refine wpList_append_run (.tmp 33) (.tmp 34) 22 rfl rfl rfl rfl rfl HR1.out ?_) | (refine wpList_append_run (.tmp 35) (.tmp 36) 22 rfl rfl rfl rfl rfl HR2.out ?_))
  refine HCR.out.mono ?_
  rintro e w3 ⟨rfl, hb⟩
  have HB3 := Lib.hid hb
  clear hb
  go_wp2_with fail
  have HB13 := Lib.hid (HB2.out.trans (HB3.out.mono HB2.out.size))
  have hg3 : g < w3.heap.size := Nat.lt_of_lt_of_le hglt HB13.out.size
  have HH3 : Hid (w3.heap[g]? = some (.cells cur 5 (0, 0))) := (HB13.out.block g hglt).trans HH1.out
  have HE3 := Lib.hid (HE2.out.below HB3.out)
  have hS1 : ∀ (i : Nat) (W : World), 1 ≤ i → i < m → Below w3.heap.size w3 W → Calls Tryd.prog 9 #[.slice (some ⟨g, 0, none⟩) i d, .int .i64 0] W fun e w' => e = .returned (.tuple #[.int .i64 0, .int .i64 0, .int .i64 4]) ∧ Below W.heap.size W w' := fun i W hi1 hi2 hbW => by
    have hP3 : Byt w3 (some ⟨g, 0, none⟩) m d (putS c) := by
      have := byt_put (c := c) HH3.out (by rw [HM.out]; exact hn) hdm HTA.out
      rw [HM.out] at this
      exact this
    obtain ⟨e1, e2, e3, h0 | ⟨b, off, hbo, hB, hcl⟩⟩ := (hP3.head (k := i) (by omega)).below hbW
    · omega
    · cases hbo
      have hx := rune_in ((putS c).extract 0 i) g 0 d 0 i W e1 (HE3.out.below hbW).1 (by omega) (by omega) e3 hcl
      have e : runeG ((putS c).extract 0 i) 0 = (0, 0, 4) := by simp [runeG, decode_short HF.out i hi1 (by rw [HM.out]; exact hi2)]
      rw [e] at hx
      exact hx
  have HS1 := Lib.hid hS1
  clear hS1
  go_loopw [12] (fun i wr => ∃ k : Nat, 1 ≤ k ∧ k ≤ m ∧ i = .int .i64 k ∧ Below w3.heap.size w3 wr) (fun i _ => m - (RowKit.intOf i).toNat)
  case atStart => exact ⟨1, by omega, by omega, rfl, Below.refl _ _⟩
  case round =>
    obtain ⟨k, hk1, hk2, rfl, hbr⟩ := hrel
    have HBR := Lib.hid hbr
    clear hbr
    by_cases hlt : k < m
    · have CS := Lib.hid (HS1.out k wr hk1 hlt HBR.out)
      go_wp2_with (go_at_call 9; refine CS.out.mono ?_; rintro e w' ⟨rfl, hb⟩; have HB := Lib.hid hb; clear hb)
      go_roundw
      case rel => exact ⟨k + 1, by omega, by omega, by go_num, HBR.out.trans (HB.out.mono HBR.out.size)⟩
      case measure => simp [RowKit.intOf]; omega
    · obtain rfl : k = m := by omega
      clear hlt hk1 hk2
      have HHR : Hid (wr.heap[g]? = some (.cells cur 5 (0, 0))) := (HBR.out.block g hg3).trans HH3.out
      have hcell : wr.cell? ⟨g, 0, none⟩ = some (.int .u8 ((putL c).getD 0 0).toNat) := by
        have hl0 : 0 < (putL c).length := by rw [putL_length]; exact (putZ_pos c).1
        have h := head_cells (l := putL c) HHR.out (by rw [putL_length]; exact HTA.out) 0 hl0
        rw [get!_of_list _ 0 hl0, Nat.zero_add] at h
        rw [h]
        simp [List.getD, List.getElem?_eq_getElem hl0]
      have hfrz : wr.frozen? ⟨g, 0, none⟩ = false := by
        have h := HHR.out
        simp [World.frozen?, h]
      obtain ⟨b0, hb0⟩ : ∃ b0 : Nat, ((putL c).getD 0 0).toNat = b0 := ⟨_, rfl⟩
      have HB0 := Lib.hid hb0
      rw [hb0] at hcell
      clear hb0
      have hbl : b0 ≤ 255 := by have := HB0.out; have h2 := ((putL c).getD 0 0).toNat_lt; omega
      have HX := Lib.hid (xor_turns b0 bit hbl hb0' hb1')
      have hE4 : Env wr := HE3.out.below HBR.out
      have HE4 := Lib.hid hE4
      have hbk := HB1.out.trans (HB13.out.mono HB1.out.size)
      have HBK := Lib.hid (hbk.trans (HBR.out.mono hbk.size))
      clear hE4 hbk
      go_wp2_with fail
      obtain ⟨x0, hx1, hx2, hx3⟩ := HX.out
      rw [hx1]
      clear hx1
      have hS' := turned HHR.out HM.out hn hdm HSZ.out HTA.out x0 hx2
      have hbS : Below w.heap.size w (wr.setCell ⟨g, 0, none⟩ (.int .u8 x0)) := HBK.out.setCell (by exact hg) _
      have hE5 : Env (wr.setCell ⟨g, 0, none⟩ (.int .u8 x0)) := HE.out.below hbS
      have HBS := Lib.hid hbS
      have hRn := rune_turned hS' hE5 HF.out HM.out HB0.out hx2 hx3
      clear hcell hfrz hbS hS' hE5
      obtain ⟨W5, hW5⟩ : ∃ W5, wr.setCell ⟨g, 0, none⟩ (.int .u8 x0) = W5 := ⟨_, rfl⟩
      rw [hW5] at hRn HBS ⊢
      clear hW5
      rcases hRn with hRn | ⟨R, K, hRn, hR, hK1, hK2⟩
      · refine hRn.mono ?_
        rintro e w6 ⟨rfl, hb⟩
        have HB6 := Lib.hid (HBS.out.trans (hb.mono HBS.out.size))
        clear hb hRn
        go_wp2_with (go_at_call 12; refine (alive_any _ (HE.out.below HB6.out)).mono ?_; rintro e w' ⟨rfl, hb⟩; have HB := Lib.hid hb; clear hb)
        go_ret
        exact ⟨rfl, HB6.out.trans (HB.out.mono HB6.out.size)⟩
      · refine hRn.mono ?_
        rintro e w6 ⟨rfl, hb⟩
        have HB6 := Lib.hid (HBS.out.trans (hb.mono HBS.out.size))
        have hRb : (R != c) = true := by rw [bne_iff_ne]; exact hR
        clear hb hRn hR
        go_wp2_with (go_at_call 12; refine (alive_any _ (HE.out.below HB6.out)).mono ?_; rintro e w' ⟨rfl, hb⟩; have HB := Lib.hid hb; clear hb)
        go_ret
        exact ⟨rfl, HB6.out.trans (HB.out.mono HB6.out.size)⟩

theorem back_any (p : Option Addr) (n cap : Nat) (c bit : Int) (s : ByteArray) (w : World) (hE : Env w) (hS : Byt w p n cap s) (hsm : n ≤ 140737488351232) (hb0 : 0 ≤ bit) (hb1 : bit ≤ 255) :
    Calls Tryd.prog 5 #[.int .i64 c, .slice p n cap, .int .u8 bit] w fun e w' => e = .returned (.bool true) ∧ Below w.heap.size w w' := by
  cases hf : fineB c with
  | false => exact back_no p n cap c bit w hE hf
  | true => exact back_yes p n cap c bit s w hE hf hS hsm hb0 hb1
end Go.Proofs.YthlofckaljkhhaaDoor
