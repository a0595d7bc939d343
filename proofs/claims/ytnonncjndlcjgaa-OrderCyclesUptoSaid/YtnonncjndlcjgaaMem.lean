/- How slices of int, of string and of slices of int lie in memory; the small functions that only read them: same, great, Right. -/
import Derived.Test.YtnonncjndlcjgaaRows
import Derived.WalkKit
import Derived.BigQuiet
import Derived.Deep.QuietTactic
import Derived.Lib.Hide
import Derived.Deep.DeepFit
import Derived.WalkSpells
import Derived.Deep.LoopGhost
namespace Go.Proofs.Ytnonncjndlcjgaa
open Go.RowKit

theorem ret_bool {a b : Bool} (h : a = b) : Ending.returned (.bool a) = .returned (.bool b) := by rw [h]
theorem ret_int {k : IntKind} {a b : Int} (h : a = b) : Ending.returned (.int k a) = .returned (.int k b) := by rw [h]

theorem addr_add (b off j : Nat) : (⟨b, off, none⟩ : Addr).add j = ⟨b, off + j, none⟩ := by unfold Addr.add; split <;> simp_all

/-- a slice of int in memory, nil too: its elements -/
def Ints (w : World) (p : Option Addr) (n cap : Nat) (zs : List Int) : Prop :=
  n = zs.length ∧ n ≤ cap ∧ cap ≤ 9223372036854775807 ∧ (n = 0 ∨ ∃ b off, p = some ⟨b, off, none⟩ ∧ b < w.heap.size ∧ ∀ j, j < n → w.cell? ⟨b, off + j, none⟩ = some (.int .i64 (zs.getD j 0)))

/-- a slice of strings -/
def Strs (w : World) (p : Option Addr) (n cap : Nat) (ss : List ByteArray) : Prop :=
  n = ss.length ∧ n ≤ cap ∧ cap ≤ 9223372036854775807 ∧ (n = 0 ∨ ∃ b off, p = some ⟨b, off, none⟩ ∧ b < w.heap.size ∧ ∀ j, j < n → w.cell? ⟨b, off + j, none⟩ = some (.string (ss.getD j ByteArray.empty)))

/-- a slice of slices of int -/
def Needs (w : World) (p : Option Addr) (n cap : Nat) (N : List (List Int)) : Prop :=
  n = N.length ∧ n ≤ cap ∧ cap ≤ 9223372036854775807 ∧ (n = 0 ∨ ∃ b off, p = some ⟨b, off, none⟩ ∧ b < w.heap.size ∧
    ∀ j, j < n → ∃ q m c, w.cell? ⟨b, off + j, none⟩ = some (.slice q m c) ∧ Ints w q m c (N.getD j []))

theorem Ints.below {w w' : World} {p : Option Addr} {n cap : Nat} {zs : List Int} (h : Ints w p n cap zs) (hb : Below w.heap.size w w') : Ints w' p n cap zs := by
  obtain ⟨h1, h2, h3, h4⟩ := h
  refine ⟨h1, h2, h3, ?_⟩
  rcases h4 with h4 | ⟨b, off, hp, hB, hc⟩
  · exact Or.inl h4
  · exact Or.inr ⟨b, off, hp, Nat.lt_of_lt_of_le hB hb.size, fun j hj => by rw [hb.cell (by exact hB)]; exact hc j hj⟩
theorem Strs.below {w w' : World} {p : Option Addr} {n cap : Nat} {zs : List ByteArray} (h : Strs w p n cap zs) (hb : Below w.heap.size w w') : Strs w' p n cap zs := by
  obtain ⟨h1, h2, h3, h4⟩ := h
  refine ⟨h1, h2, h3, ?_⟩
  rcases h4 with h4 | ⟨b, off, hp, hB, hc⟩
  · exact Or.inl h4
  · exact Or.inr ⟨b, off, hp, Nat.lt_of_lt_of_le hB hb.size, fun j hj => by rw [hb.cell (by exact hB)]; exact hc j hj⟩
theorem Needs.below {w w' : World} {p : Option Addr} {n cap : Nat} {N : List (List Int)} (h : Needs w p n cap N) (hb : Below w.heap.size w w') : Needs w' p n cap N := by
  obtain ⟨h1, h2, h3, h4⟩ := h
  refine ⟨h1, h2, h3, ?_⟩
  rcases h4 with h4 | ⟨b, off, hp, hB, hc⟩
  · exact Or.inl h4
  · refine Or.inr ⟨b, off, hp, Nat.lt_of_lt_of_le hB hb.size, fun j hj => ?_⟩
    obtain ⟨q, m, c, h5, h6⟩ := hc j hj
    exact ⟨q, m, c, by rw [hb.cell (by exact hB)]; exact h5, h6.below hb⟩

/-- the first place where two lists part -/
theorem eq_of_getD {xs ys : List Int} (hl : xs.length = ys.length) (h : ∀ j, j < xs.length → xs.getD j 0 = ys.getD j 0) : xs = ys := by
  refine List.ext_getElem hl fun j h1 h2 => ?_
  have := h j h1
  simpa [List.getD, List.getElem?_eq_getElem h1, List.getElem?_eq_getElem h2] using this

/-! ### same -/
set_option maxHeartbeats 1000000 in
theorem same_some (b off n cap b' off' n' cap' : Nat) (xs ys : List Int) (w : World) (hn : n = xs.length) (hn' : n' = ys.length) (hc : n ≤ cap) (hc' : n' ≤ cap') (_hm : cap ≤ 9223372036854775807) (_hm' : cap' ≤ 9223372036854775807)
    (hB : b < w.heap.size) (hB' : b' < w.heap.size) (hx : ∀ j, j < n → w.cell? ⟨b, off + j, none⟩ = some (.int .i64 (xs.getD j 0))) (hy : ∀ j, j < n' → w.cell? ⟨b', off' + j, none⟩ = some (.int .i64 (ys.getD j 0))) :
    Calls Try.prog 13 #[.slice (some ⟨b, off, none⟩) n cap, .slice (some ⟨b', off', none⟩) n' cap'] w fun e w' => e = .returned (.bool (decide (xs = ys))) ∧ Below w.heap.size w w' := by
  by_cases hl : n = n'
  · subst hl
    have HX := Lib.hid hx
    have HY := Lib.hid hy
    have HN := Lib.hid hn
    have HN' := Lib.hid hn'
    clear hx hy hn hn'
    go_enter Try.func13, Try.ntmps13
    go_wp2
    go_loopw [13] (fun i wr => ∃ k : Nat, k ≤ n ∧ i = .int .i64 k ∧ (∀ j, j < k → xs.getD j 0 = ys.getD j 0) ∧ Below w.heap.size w wr) (fun i _ => n - (RowKit.intOf i).toNat)
    case atStart => exact ⟨0, Nat.zero_le _, rfl, fun j hj => absurd hj (by omega), Below.refl _ _⟩
    case round =>
      obtain ⟨k, hk, rfl, hal, hbr⟩ := hrel
      have HAL := Lib.hid hal
      have HBR := Lib.hid hbr
      clear hal hbr
      by_cases hlt : k < n
      · have hcx : wr.cell? ⟨b, off + k, none⟩ = some (.int .i64 (xs.getD k 0)) := by rw [HBR.out.cell (by exact hB)]; exact HX.out k hlt
        have hcy : wr.cell? ⟨b', off' + k, none⟩ = some (.int .i64 (ys.getD k 0)) := by rw [HBR.out.cell (by exact hB')]; exact HY.out k hlt
        have hi : (k : Int) < (n : Int) := by omega
        obtain ⟨x, hxx⟩ : ∃ x, xs.getD k 0 = x := ⟨_, rfl⟩
        obtain ⟨y, hyy⟩ : ∃ y, ys.getD k 0 = y := ⟨_, rfl⟩
        have HXX := Lib.hid hxx
        have HYY := Lib.hid hyy
        rw [hxx] at hcx
        rw [hyy] at hcy
        clear hxx hyy
        by_cases he : x = y
        · subst he
          go_wp2
          go_quiet (fail)
          go_wp2
          go_roundw
          case rel => exact ⟨k + 1, by omega, by go_num, fun j hj => by
            rcases Nat.lt_succ_iff_lt_or_eq.1 hj with h | rfl
            · exact HAL.out j h
            · rw [HXX.out, HYY.out], by
              refine HBR.out.trans ⟨rfl, rfl, rfl, Nat.le_refl _, fun _ _ => rfl⟩⟩
          case measure => simp [RowKit.intOf]; omega
        · have hne : (x != y) = true := by rw [bne_iff_ne]; exact he
          have HE := Lib.hid he
          clear he
          go_wp2
          go_quiet (fail)
          go_wp2
          go_ret
          refine ⟨ret_bool ?_, HBR.out.trans ⟨rfl, rfl, rfl, Nat.le_refl _, fun _ _ => rfl⟩⟩
          symm
          rw [decide_eq_false_iff_not]
          rintro rfl
          exact HE.out (HXX.out.symm.trans HYY.out)
      · have e : k = n := by omega
        subst e
        clear hlt hk
        go_wp2
        go_ret
        refine ⟨ret_bool ?_, HBR.out⟩
        symm
        rw [decide_eq_true_eq]
        exact eq_of_getD (by rw [← HN.out, ← HN'.out]) (fun j hj => HAL.out j (by rw [HN.out]; exact hj))
  · have hne : ((n : Int) != (n' : Int)) = true := by rw [bne_iff_ne]; omega
    go_enter Try.func13, Try.ntmps13
    clear hx hy
    have HN := Lib.hid hn
    have HN' := Lib.hid hn'
    clear hn hn'
    go_wp2
    go_ret
    refine ⟨ret_bool ?_, Below.refl _ _⟩
    symm
    rw [decide_eq_false_iff_not]
    rintro rfl
    exact hl (HN.out.trans HN'.out.symm)

set_option maxHeartbeats 1000000 in
theorem same_apart (p p' : Option Addr) (n n' cap cap' : Nat) (w : World) (h : n ≠ n') :
    Calls Try.prog 13 #[.slice p n cap, .slice p' n' cap'] w fun e w' => e = .returned (.bool false) ∧ w = w' := by
  have hne : ((n : Int) != (n' : Int)) = true := by rw [bne_iff_ne]; omega
  clear h
  go_enter Try.func13, Try.ntmps13
  go_wp2
  go_ret
  exact ⟨rfl, rfl⟩
set_option maxHeartbeats 1000000 in
theorem same_none (p p' : Option Addr) (cap cap' : Nat) (w : World) :
    Calls Try.prog 13 #[.slice p 0 cap, .slice p' 0 cap'] w fun e w' => e = .returned (.bool true) ∧ w = w' := by
  go_enter Try.func13, Try.ntmps13
  go_wp2
  go_loop [13] (fun i => i = .int .i64 0) (fun _ => 0)
  case atStart => rfl
  case round =>
    subst hrel
    go_wp2
    go_ret
    exact ⟨rfl, rfl⟩

theorem same_any {p p' : Option Addr} {n n' cap cap' : Nat} {xs ys : List Int} {w : World} (hx : Ints w p n cap xs) (hy : Ints w p' n' cap' ys) :
    Calls Try.prog 13 #[.slice p n cap, .slice p' n' cap'] w fun e w' => e = .returned (.bool (decide (xs = ys))) ∧ Below w.heap.size w w' := by
  obtain ⟨h1, h2, h3, h4⟩ := hx
  obtain ⟨k1, k2, k3, k4⟩ := hy
  by_cases h : n = n'
  · by_cases h0 : n = 0
    · subst h
      subst h0
      have e1 : xs = [] := List.eq_nil_of_length_eq_zero h1.symm
      have e2 : ys = [] := List.eq_nil_of_length_eq_zero k1.symm
      subst e1 e2
      refine (same_none p p' cap cap' w).mono ?_
      rintro e w' ⟨rfl, rfl⟩
      exact ⟨rfl, Below.refl _ _⟩
    · rcases h4 with h4 | ⟨b, off, rfl, hB, hc⟩
      · omega
      · rcases k4 with k4 | ⟨b', off', rfl, hB', hc'⟩
        · omega
        · exact same_some b off n cap b' off' n' cap' xs ys w h1 k1 h2 k2 h3 k3 hB hB' hc hc'
  · refine (same_apart p p' n n' cap cap' w h).mono ?_
    rintro e w' ⟨rfl, rfl⟩
    refine ⟨ret_bool ?_, Below.refl _ _⟩
    symm
    rw [decide_eq_false_iff_not]
    rintro rfl
    omega

/-! ### great -/
/-- how many things and needs, the first k needs looked at -/
def tot (N : List (List Int)) : Nat → Int
  | 0 => N.length
  | k + 1 => tot N k + ((N.getD k []).length : Nat)

def SomeBool (w : World) (e : Ending) (w' : World) : Prop := (∃ r, e = .returned (.bool r)) ∧ w = w'

set_option maxHeartbeats 1000000 in
/-- whatever the sum: an answer comes -/
theorem great_some (b off n cap : Nat) (N : List (List Int)) (w : World) (hc : n ≤ cap) (_hm : cap ≤ 9223372036854775807)
    (hx : ∀ j, j < n → ∃ q m c, w.cell? ⟨b, off + j, none⟩ = some (.slice q m c) ∧ Ints w q m c (N.getD j [])) :
    Calls Try.prog 10 #[.slice (some ⟨b, off, none⟩) n cap] w (SomeBool w) := by
  have HX := Lib.hid hx
  clear hx
  go_enter Try.func10, Try.ntmps10
  go_wp2
  go_loop [3, 10] (fun t i => ∃ (k : Nat) (x : Int), k ≤ n ∧ i = .int .i64 k ∧ t = .int .i64 x) (fun _ i => n - (RowKit.intOf i).toNat)
  case atStart => exact ⟨0, _, Nat.zero_le _, rfl, rfl⟩
  case round =>
    obtain ⟨k, x, hk, rfl, rfl⟩ := hrel
    by_cases hlt : k < n
    · obtain ⟨q, m, c, hcell, _⟩ := HX.out k hlt
      go_wp2
      go_round
      case rel => exact ⟨k + 1, _, by omega, by go_num, rfl⟩
      case measure => simp [RowKit.intOf]; omega
    · go_wp2
      go_ret
      exact ⟨⟨_, rfl⟩, rfl⟩

set_option maxHeartbeats 1000000 in
/-- where the sum stays small: the answer -/
theorem great_small (b off n cap : Nat) (N : List (List Int)) (w : World) (hc : n ≤ cap) (_hm : cap ≤ 9223372036854775807) (hn : n = N.length)
    (hx : ∀ j, j < n → ∃ q m c, w.cell? ⟨b, off + j, none⟩ = some (.slice q m c) ∧ Ints w q m c (N.getD j []))
    (hs : ∀ k, k ≤ n → 0 ≤ tot N k ∧ tot N k ≤ 4611686018427387904) :
    Calls Try.prog 10 #[.slice (some ⟨b, off, none⟩) n cap] w fun e w' => e = .returned (.bool (decide (300 < tot N n))) ∧ w = w' := by
  have HX := Lib.hid hx
  have HS := Lib.hid hs
  have HN := Lib.hid hn
  clear hx hs hn
  go_enter Try.func10, Try.ntmps10
  go_wp2
  go_loop [3, 10] (fun t i => ∃ (k : Nat), k ≤ n ∧ i = .int .i64 k ∧ t = .int .i64 (tot N k)) (fun _ i => n - (RowKit.intOf i).toNat)
  case atStart => exact ⟨0, Nat.zero_le _, rfl, by show Value.int _ (n : Int) = Value.int _ (N.length : Nat); rw [HN.out]⟩
  case round =>
    obtain ⟨k, hk, rfl, rfl⟩ := hrel
    have hb := HS.out k hk
    by_cases hlt : k < n
    · obtain ⟨q, m, c, hcell, hi⟩ := HX.out k hlt
      have hb2 := HS.out (k + 1) (by omega)
      have hstep : tot N (k + 1) = tot N k + (m : Int) := by show tot N k + ((N.getD k []).length : Nat) = _; rw [← hi.1]
      rw [hstep] at hb2
      have HST := Lib.hid hstep
      clear hstep hi
      go_wp2
      go_round
      case rel => exact ⟨k + 1, by omega, by go_num, by rw [HST.out]⟩
      case measure => simp [RowKit.intOf]; omega
    · have e : k = n := by omega
      subst e
      go_wp2
      go_ret
      exact ⟨rfl, rfl⟩

set_option maxHeartbeats 1000000 in
theorem great_zero (p : Option Addr) (cap : Nat) (w : World) : Calls Try.prog 10 #[.slice p 0 cap] w fun e w' => e = .returned (.bool false) ∧ w = w' := by
  go_enter Try.func10, Try.ntmps10
  go_wp2
  go_loop [3, 10] (fun t i => i = .int .i64 0 ∧ t = .int .i64 0) (fun _ _ => 0)
  case atStart => exact ⟨rfl, rfl⟩
  case round =>
    obtain ⟨rfl, rfl⟩ := hrel
    go_wp2
    go_ret
    exact ⟨rfl, rfl⟩

theorem great_any {p : Option Addr} {n cap : Nat} {N : List (List Int)} {w : World} (h : Needs w p n cap N) :
    Calls Try.prog 10 #[.slice p n cap] w (SomeBool w) := by
  obtain ⟨h1, h2, h3, h4 | ⟨b, off, rfl, hB, hc⟩⟩ := h
  · subst h4
    exact (great_zero p cap w).mono fun e w' ⟨he, hw⟩ => ⟨⟨_, he⟩, hw⟩
  · exact great_some b off n cap N w h2 h3 hc

theorem great_ok {p : Option Addr} {n cap : Nat} {N : List (List Int)} {w : World} (h : Needs w p n cap N) (hs : ∀ k, k ≤ n → 0 ≤ tot N k ∧ tot N k ≤ 4611686018427387904) :
    Calls Try.prog 10 #[.slice p n cap] w fun e w' => e = .returned (.bool (decide (300 < tot N n))) ∧ w = w' := by
  obtain ⟨h1, h2, h3, h4 | ⟨b, off, rfl, hB, hc⟩⟩ := h
  · subst h4
    have e : tot N 0 = 0 := by show ((N.length : Nat) : Int) = 0; omega
    rw [e]
    exact great_zero p cap w
  · exact great_small b off n cap N w h2 h3 h1 hc hs
end Go.Proofs.Ytnonncjndlcjgaa
