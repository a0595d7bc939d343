/- order.right: by slices.ContainsFunc twice, over closures. -/
import Derived.Test.YtnonncjndlcjgaaRight
namespace Go.Proofs.Ytnonncjndlcjgaa
open Go.RowKit

/-- the box that both closures look into -/
def Box (w : World) (bb : Nat) (p : Option Addr) (n cap : Nat) : Prop := w.cell? ⟨bb, 0, none⟩ = some (.slice p n cap)

set_option maxHeartbeats 400000 in
theorem leaf_any (x : Int) (bb : Nat) (p : Option Addr) (n cap : Nat) (w : World) (hb : w.cell? ⟨bb, 0, none⟩ = some (.slice p n cap)) (_hn : n ≤ 9223372036854775807) :
    Calls Try.prog 26 #[.int .i64 x, .pointer (some ⟨bb, 0, none⟩)] w fun e w' => e = .returned (.bool (!inR n x)) ∧ w = w' := by
  have h : x < 0 ∨ (0 ≤ x ∧ x < (n : Int)) ∨ (0 ≤ x ∧ (n : Int) ≤ x) := by omega
  rcases h with h | ⟨h1, h2⟩ | ⟨h1, h2⟩
  all_goals
    go_enter Try.func26, Try.ntmps26
    go_wp2
    go_ret
    exact ⟨ret_bool (by rw [Bool.eq_iff_iff]; simp [inR]; try omega), rfl⟩

/-- the place of the first one that is no thing's number -/
def badPlace (n : Nat) (l : List Int) : Nat := l.findIdx (fun x => !inR n x)
def badIx (n : Nat) (l : List Int) : Int := if badPlace n l < l.length then (badPlace n l : Int) else -1

theorem badPlace_at (n : Nat) (l : List Int) (k : Nat) (hk : k < l.length) (hal : ∀ j, j < k → inR n (l.getD j 0) = true) (hb : inR n (l.getD k 0) = false) : badIx n l = k := by
  have e : badPlace n l = k := by
    unfold badPlace
    rw [List.findIdx_eq hk]
    have ek : l.getD k 0 = l[k] := by simp [List.getD, List.getElem?_eq_getElem hk]
    rw [ek] at hb
    refine ⟨by simp [hb], fun j hj => ?_⟩
    have ej : l.getD j 0 = l[j] := by simp [List.getD, List.getElem?_eq_getElem (show j < l.length by omega)]
    have := hal j hj
    rw [ej] at this
    simp [this]
  unfold badIx
  rw [e, if_pos hk]
theorem badPlace_none (n : Nat) (l : List Int) (hal : ∀ j, j < l.length → inR n (l.getD j 0) = true) : badIx n l = -1 := by
  unfold badIx
  rw [if_neg]
  intro h
  have h2 := List.findIdx_getElem (w := h) (p := fun x => !inR n x)
  have h3 := hal _ h
  have e : l.getD (badPlace n l) 0 = l[badPlace n l] := by simp [List.getD, List.getElem?_eq_getElem h]
  rw [e] at h3
  unfold badPlace at h3
  rw [h3] at h2
  cases h2
theorem badIx_all (n : Nat) (l : List Int) : (decide (0 ≤ badIx n l)) = !l.all (inR n) := by
  by_cases h : badPlace n l < l.length
  · have e : badIx n l = badPlace n l := by unfold badIx; rw [if_pos h]
    have h2 := List.findIdx_getElem (w := h) (p := fun x => !inR n x)
    have h4 : l.all (inR n) = false := by
      rw [Bool.eq_false_iff]
      intro ha
      rw [List.all_eq_true] at ha
      have h5 := ha _ (List.getElem_mem h)
      have h6 : (!inR n l[badPlace n l]) = true := h2
      rw [h5] at h6
      cases h6
    rw [e, h4]
    simp
  · have e : badIx n l = -1 := by unfold badIx; rw [if_neg h]
    have h4 : l.all (inR n) = true := by
      rw [List.all_eq_true]
      intro x hx
      have h5 : badPlace n l = l.length := by
        have := List.findIdx_le_length (p := fun x => !inR n x) (xs := l)
        unfold badPlace at h ⊢
        omega
      have := (List.findIdx_eq_length (p := fun x => !inR n x) (xs := l)).1 h5 x hx
      simpa using this
    rw [e, h4]
    rfl

set_option maxHeartbeats 1000000 in
theorem ixf_some (b off m c : Nat) (l : List Int) (bb : Nat) (p : Option Addr) (n cap : Nat) (w : World) (hb : w.cell? ⟨bb, 0, none⟩ = some (.slice p n cap)) (hn : n ≤ 9223372036854775807)
    (hl : m = l.length) (hmc : m ≤ c) (_hc : c ≤ 9223372036854775807) (hx : ∀ j, j < m → w.cell? ⟨b, off + j, none⟩ = some (.int .i64 (l.getD j 0))) :
    Calls Try.prog 33 #[.slice (some ⟨b, off, none⟩) m c, .func (.func 26) #[] #[.pointer (some ⟨bb, 0, none⟩)]] w fun e w' => e = .returned (.int .i64 (badIx n l)) ∧ w = w' := by
  have HX := Lib.hid hx
  have HL := Lib.hid hl
  have HB := Lib.hid hb
  clear hx hl hb
  go_enter Try.func33, Try.ntmps33
  go_wp2
  go_loop [8] (fun i => ∃ k : Nat, k ≤ m ∧ i = .int .i64 k ∧ ∀ j, j < k → inR n (l.getD j 0) = true) (fun i => m - (RowKit.intOf i).toNat)
  case atStart => exact ⟨0, Nat.zero_le _, rfl, fun j hj => absurd hj (by omega)⟩
  case round =>
    obtain ⟨k, hk, rfl, hal⟩ := hrel
    have HAL := Lib.hid hal
    clear hal
    by_cases hlt : k < m
    · have hcell := HX.out k hlt
      obtain ⟨x, hxx⟩ : ∃ x, l.getD k 0 = x := ⟨_, rfl⟩
      rw [hxx] at hcell
      have HXX := Lib.hid hxx
      clear hxx
      have cL := leaf_any x bb p n cap w HB.out hn
      cases hr : inR n x with
      | true =>
        rw [hr] at cL
        have CL := Lib.hid cL
        have HR := Lib.hid hr
        clear cL hr
        go_wp2_with (go_at_call 26; refine CL.out.mono ?_; rintro e w' ⟨rfl, rfl⟩)
        go_round
        case rel => exact ⟨k + 1, by omega, by go_num, fun j hj => by
          rcases Nat.lt_succ_iff_lt_or_eq.1 hj with h | rfl
          · exact HAL.out j h
          · rw [HXX.out, HR.out]⟩
        case measure => simp [RowKit.intOf]; omega
      | false =>
        rw [hr] at cL
        have CL := Lib.hid cL
        have hres := badPlace_at n l k (by have := HL.out; omega) HAL.out (by rw [HXX.out, hr])
        have HRES := Lib.hid hres
        clear cL hr hres
        go_wp2_with (go_at_call 26; refine CL.out.mono ?_; rintro e w' ⟨rfl, rfl⟩)
        go_ret
        exact ⟨ret_int (by rw [HRES.out]), rfl⟩
    · have e : k = m := by omega
      subst e
      have hres := badPlace_none n l (fun j hj => HAL.out j (by have := HL.out; omega))
      have HRES := Lib.hid hres
      clear hres
      go_wp2
      go_ret
      exact ⟨ret_int (by rw [HRES.out]), rfl⟩

set_option maxHeartbeats 1000000 in
theorem ixf_zero (q : Option Addr) (c : Nat) (v : Value) (w : World) :
    Calls Try.prog 33 #[.slice q 0 c, v] w fun e w' => e = .returned (.int .i64 (-1)) ∧ w = w' := by
  go_enter Try.func33, Try.ntmps33
  go_wp2
  go_loop [8] (fun i => i = .int .i64 0) (fun _ => 0)
  case atStart => rfl
  case round =>
    subst hrel
    go_wp2
    go_ret
    exact ⟨rfl, rfl⟩

theorem ixf_any {q : Option Addr} {m c : Nat} {l : List Int} {bb : Nat} {p : Option Addr} {n cap : Nat} {w : World} (hb : w.cell? ⟨bb, 0, none⟩ = some (.slice p n cap)) (hn : n ≤ 9223372036854775807) (h : Ints w q m c l) :
    Calls Try.prog 33 #[.slice q m c, .func (.func 26) #[] #[.pointer (some ⟨bb, 0, none⟩)]] w fun e w' => e = .returned (.int .i64 (badIx n l)) ∧ w = w' := by
  obtain ⟨h1, h2, h3, h4 | ⟨b, off, rfl, hB, hc⟩⟩ := h
  · subst h4
    have e : l = [] := List.eq_nil_of_length_eq_zero h1.symm
    subst e
    exact ixf_zero q c _ w
  · exact ixf_some b off m c l bb p n cap w hb hn h1 h2 h3 hc

set_option maxHeartbeats 1000000 in
theorem cfi_any {q : Option Addr} {m c : Nat} {l : List Int} {bb : Nat} {p : Option Addr} {n cap : Nat} {w : World} (hb : w.cell? ⟨bb, 0, none⟩ = some (.slice p n cap)) (hn : n ≤ 9223372036854775807) (h : Ints w q m c l) :
    Calls Try.prog 25 #[.slice q m c, .func (.func 26) #[] #[.pointer (some ⟨bb, 0, none⟩)]] w fun e w' => e = .returned (.bool (!l.all (inR n))) ∧ w = w' := by
  have hI := ixf_any hb hn h
  have hbx := badIx_all n l
  have HI := Lib.hid hI
  obtain ⟨X, hX⟩ : ∃ X, badIx n l = X := ⟨_, rfl⟩
  rw [hX] at HI hbx
  have HBX := Lib.hid hbx
  clear hI hbx hX h hb
  go_enter Try.func25, Try.ntmps25
  go_wp2_with (go_at_call 33; refine HI.out.mono ?_; rintro e w' ⟨rfl, rfl⟩)
  go_ret
  exact ⟨ret_bool (by rw [← HBX.out]), rfl⟩

set_option maxHeartbeats 1000000 in
theorem row_any {q : Option Addr} {m c : Nat} {l : List Int} {bb : Nat} {p : Option Addr} {n cap : Nat} {w : World} (hb : w.cell? ⟨bb, 0, none⟩ = some (.slice p n cap)) (hn : n ≤ 9223372036854775807) (h : Ints w q m c l) :
    Calls Try.prog 24 #[.slice q m c, .pointer (some ⟨bb, 0, none⟩)] w fun e w' => e = .returned (.bool (!l.all (inR n))) ∧ w = w' := by
  have HI := Lib.hid (cfi_any hb hn h)
  clear hb h
  go_enter Try.func24, Try.ntmps24
  go_wp2_with (go_at_call 25; refine HI.out.mono ?_; rintro e w' ⟨rfl, rfl⟩)
  go_ret
  exact ⟨rfl, rfl⟩

/-- the place of the first row that is not right -/
def badRow (N : List (List Int)) : Int := if rightB N then -1 else (N.findIdx (fun l => !l.all (inR N.length)) : Int)
theorem badRow_good (N : List (List Int)) (k : Nat) (hk : k = N.length) (hal : ∀ j, j < k → (N.getD j []).all (inR N.length) = true) : badRow N = -1 := by
  have hr' : rightB N = true := by
    unfold rightB
    rw [List.all_eq_true]
    intro l hl
    obtain ⟨j, hj, rfl⟩ := List.getElem_of_mem hl
    have h := hal j (by omega)
    have ej : N.getD j [] = N[j] := by simp [List.getD, List.getElem?_eq_getElem hj]
    rw [ej] at h
    exact h
  unfold badRow
  rw [hr', if_pos rfl]
theorem badRow_bad (N : List (List Int)) (k : Nat) (hk : k < N.length) (hal : ∀ j, j < k → (N.getD j []).all (inR N.length) = true) (hb : (N.getD k []).all (inR N.length) = false) : badRow N = k := by
  have ek : N.getD k [] = N[k] := by simp [List.getD, List.getElem?_eq_getElem hk]
  rw [ek] at hb
  have hr' : rightB N = false := by
    unfold rightB
    rw [Bool.eq_false_iff]
    intro h
    rw [List.all_eq_true] at h
    have := h _ (List.getElem_mem hk)
    rw [this] at hb
    cases hb
  have e : N.findIdx (fun l => !l.all (inR N.length)) = k := by
    rw [List.findIdx_eq hk]
    refine ⟨by rw [hb]; rfl, fun j hj => ?_⟩
    have ej : N.getD j [] = N[j] := by simp [List.getD, List.getElem?_eq_getElem (show j < N.length by omega)]
    have := hal j hj
    rw [ej] at this
    rw [this]; rfl
  unfold badRow
  rw [hr', e, if_neg (by decide)]
theorem badRow_dec (N : List (List Int)) : decide (0 ≤ badRow N) = !rightB N := by
  unfold badRow
  cases rightB N
  · rw [if_neg (by decide)]; simp
  · rw [if_pos rfl]; rfl

def RowIx (N : List (List Int)) (w : World) (e : Ending) (w' : World) : Prop := e = .returned (.int .i64 (badRow N)) ∧ w = w'

set_option maxHeartbeats 1000000 in
theorem ixo_ix (b off n cap : Nat) (N : List (List Int)) (bb : Nat) (w : World) (hb : w.cell? ⟨bb, 0, none⟩ = some (.slice (some ⟨b, off, none⟩) n cap)) (hc : n ≤ cap) (_hm : cap ≤ 9223372036854775807) (hn : n = N.length)
    (hx : ∀ j, j < n → ∃ q m c, w.cell? ⟨b, off + j, none⟩ = some (.slice q m c) ∧ Ints w q m c (N.getD j [])) :
    Calls Try.prog 32 #[.slice (some ⟨b, off, none⟩) n cap, .func (.func 24) #[] #[.pointer (some ⟨bb, 0, none⟩)]] w (RowIx N w) := by
  have HX := Lib.hid hx
  have HN := Lib.hid hn
  have HB := Lib.hid hb
  clear hx hn hb
  go_enter Try.func32, Try.ntmps32
  go_wp2
  go_loop [8] (fun i => ∃ k : Nat, k ≤ n ∧ i = .int .i64 k ∧ ∀ j, j < k → (N.getD j []).all (inR N.length) = true) (fun i => n - (RowKit.intOf i).toNat)
  case atStart => exact ⟨0, Nat.zero_le _, rfl, fun j hj => absurd hj (by omega)⟩
  case round =>
    obtain ⟨k, hk, rfl, hal⟩ := hrel
    have HAL := Lib.hid hal
    clear hal
    by_cases hlt : k < n
    · obtain ⟨q, m, c, hcell, hi⟩ := HX.out k hlt
      have cR := row_any HB.out (by omega) hi
      have hi2 : (k : Int) < (n : Int) := by omega
      obtain ⟨r, hr⟩ : ∃ r, (N.getD k []).all (inR n) = r := ⟨_, rfl⟩
      rw [hr] at cR
      have HR := Lib.hid hr
      clear hi hr
      cases r with
      | true =>
        have CR := Lib.hid cR
        clear cR
        go_wp2_with (go_at_call 24; refine CR.out.mono ?_; rintro e w' ⟨rfl, rfl⟩)
        go_round
        case rel => exact ⟨k + 1, by omega, by go_num, fun j hj => by
          rcases Nat.lt_succ_iff_lt_or_eq.1 hj with h | rfl
          · exact HAL.out j h
          · rw [← HN.out]; exact HR.out⟩
        case measure => simp [RowKit.intOf]; omega
      | false =>
        have CR := Lib.hid cR
        have hres := badRow_bad N k (by have := HN.out; omega) HAL.out (by rw [← HN.out]; exact HR.out)
        have HRES := Lib.hid hres
        clear cR hres
        go_wp2_with (go_at_call 24; refine CR.out.mono ?_; rintro e w' ⟨rfl, rfl⟩)
        go_ret
        exact ⟨ret_int (by rw [HRES.out]), rfl⟩
    · have e : k = n := by omega
      subst e
      have hres := badRow_good N k HN.out HAL.out
      have HRES := Lib.hid hres
      clear hres
      go_wp2
      go_ret
      exact ⟨ret_int (by rw [HRES.out]), rfl⟩

set_option maxHeartbeats 1000000 in
theorem ixo_some (b off n cap : Nat) (N : List (List Int)) (bb : Nat) (w : World) (hb : w.cell? ⟨bb, 0, none⟩ = some (.slice (some ⟨b, off, none⟩) n cap)) (hc : n ≤ cap) (hm : cap ≤ 9223372036854775807) (hn : n = N.length)
    (hx : ∀ j, j < n → ∃ q m c, w.cell? ⟨b, off + j, none⟩ = some (.slice q m c) ∧ Ints w q m c (N.getD j [])) :
    Calls Try.prog 23 #[.slice (some ⟨b, off, none⟩) n cap, .func (.func 24) #[] #[.pointer (some ⟨bb, 0, none⟩)]] w fun e w' => e = .returned (.bool (!rightB N)) ∧ w = w' := by
  have HI := Lib.hid (ixo_ix b off n cap N bb w hb hc hm hn hx)
  have HBX := Lib.hid (badRow_dec N)
  obtain ⟨r, hr⟩ : ∃ r, rightB N = r := ⟨_, rfl⟩
  rw [hr] at HBX ⊢
  clear hx hb hn hr
  go_enter Try.func23, Try.ntmps23
  go_wp2_with (go_at_call 32; refine HI.out.mono ?_; rintro e w' ⟨rfl, rfl⟩)
  go_ret
  exact ⟨ret_bool (by rw [← HBX.out]), rfl⟩

set_option maxHeartbeats 1000000 in
theorem ixo_zero (q : Option Addr) (c : Nat) (v : Value) (w : World) :
    Calls Try.prog 23 #[.slice q 0 c, v] w fun e w' => e = .returned (.bool false) ∧ w = w' := by
  have hI : Calls Try.prog 32 #[.slice q 0 c, v] w fun e w' => e = .returned (.int .i64 (-1)) ∧ w = w' := by
    go_enter Try.func32, Try.ntmps32
    go_wp2
    go_loop [8] (fun i => i = .int .i64 0) (fun _ => 0)
    case atStart => rfl
    case round =>
      subst hrel
      go_wp2
      go_ret
      exact ⟨rfl, rfl⟩
  have HI := Lib.hid hI
  clear hI
  go_enter Try.func23, Try.ntmps23
  go_wp2_with (go_at_call 32; refine HI.out.mono ?_; rintro e w' ⟨rfl, rfl⟩)
  go_ret
  exact ⟨rfl, rfl⟩

set_option maxHeartbeats 1000000 in
theorem oright_any {p : Option Addr} {n cap : Nat} {N : List (List Int)} {w : World} (h : Needs w p n cap N) :
    Calls Try.prog 19 #[.slice p n cap] w fun e w' => e = .returned (.bool (rightB N)) ∧ Below w.heap.size w w' := by
  have hb : Below w.heap.size w (w.alloc (.cells #[.slice p n cap] 23)) := (Below.refl _ _).alloc (Nat.le_refl _) _
  have hcell : (w.alloc (.cells #[.slice p n cap] 23)).cell? ⟨w.heap.size, 0, none⟩ = some (.slice p n cap) := World.cell?_alloc_new w _ 23 0
  have hC : Calls Try.prog 23 #[.slice p n cap, .func (.func 24) #[] #[.pointer (some ⟨w.heap.size, 0, none⟩)]] (w.alloc (.cells #[.slice p n cap] 23)) fun e w' => e = .returned (.bool (!rightB N)) ∧ (w.alloc (.cells #[.slice p n cap] 23)) = w' := by
    obtain ⟨h1, h2, h3, h4 | ⟨b, off, rfl, hB, hc⟩⟩ := h.below hb
    · subst h4
      have e : N = [] := List.eq_nil_of_length_eq_zero h1.symm
      subst e
      exact ixo_zero p cap _ _
    · exact ixo_some b off n cap N w.heap.size _ hcell h2 h3 h1 hc
  have HC := Lib.hid hC
  have HB := Lib.hid hb
  clear hC hb hcell h
  go_enter Try.func19, Try.ntmps19
  go_wp2_with (go_at_call 23; refine HC.out.mono ?_; rintro e w' ⟨rfl, rfl⟩)
  go_ret
  exact ⟨ret_bool (by simp), HB.out⟩
end Go.Proofs.Ytnonncjndlcjgaa
