/- The reference's Right, ready: they only read. -/
import Derived.Test.YtnonncjndlcjgaaMem
namespace Go.Proofs.Ytnonncjndlcjgaa
open Go.RowKit

/-- is it a thing's number? -/
def inR (n : Nat) (x : Int) : Bool := decide (0 ≤ x ∧ x < (n : Int))
def rightB (N : List (List Int)) : Bool := N.all fun l => l.all (inR N.length)

theorem rightB_iff (N : List (List Int)) : rightB N = true ↔ ∀ j, j < N.length → ∀ i, i < (N.getD j []).length → inR N.length ((N.getD j []).getD i 0) = true := by
  unfold rightB
  rw [List.all_eq_true]
  constructor
  · intro h j hj i hi
    have e : N.getD j [] = N[j] := by simp [List.getD, List.getElem?_eq_getElem hj]
    rw [e] at hi ⊢
    have h2 := h _ (List.getElem_mem hj)
    rw [List.all_eq_true] at h2
    have e2 : N[j].getD i 0 = N[j][i] := by simp [List.getD, List.getElem?_eq_getElem hi]
    rw [e2]
    exact h2 _ (List.getElem_mem hi)
  · intro h l hl
    obtain ⟨j, hj, rfl⟩ := List.getElem_of_mem hl
    rw [List.all_eq_true]
    intro x hx
    obtain ⟨i, hi, rfl⟩ := List.getElem_of_mem hx
    have e : N.getD j [] = N[j] := by simp [List.getD, List.getElem?_eq_getElem hj]
    have h2 := h j hj i (by rw [e]; exact hi)
    rw [e] at h2
    have e2 : N[j].getD i 0 = N[j][i] := by simp [List.getD, List.getElem?_eq_getElem hi]
    rw [e2] at h2
    exact h2

set_option maxRecDepth 100000 in
set_option maxHeartbeats 1000000 in
theorem rright_some (b off n cap : Nat) (N : List (List Int)) (w : World) (hc : n ≤ cap) (_hm : cap ≤ 9223372036854775807) (hn : n = N.length)
    (hx : ∀ j, j < n → ∃ q m c, w.cell? ⟨b, off + j, none⟩ = some (.slice q m c) ∧ Ints w q m c (N.getD j [])) :
    Calls Try.prog 14 #[.slice (some ⟨b, off, none⟩) n cap] w fun e w' => e = .returned (.bool (rightB N)) ∧ w = w' := by
  have HX := Lib.hid hx
  have HN := Lib.hid hn
  clear hx hn
  go_enter Try.func14, Try.ntmps14
  go_wp2
  go_loop [3] (fun i => ∃ (k : Nat), k ≤ n ∧ i = .int .i64 k ∧ (∀ j, j < k → ∀ i, i < (N.getD j []).length → inR N.length ((N.getD j []).getD i 0) = true)) (fun i => n - (RowKit.intOf i).toNat)
  case atStart => exact ⟨0, Nat.zero_le _, rfl, fun j hj => absurd hj (by omega)⟩
  case round =>
    obtain ⟨k, hk, rfl, hal⟩ := hrel
    have HAL := Lib.hid hal
    clear hal
    by_cases hlt : k < n
    · obtain ⟨q, m, c, hcell, hi⟩ := HX.out k hlt
      have HI := Lib.hid hi
      have hmc := hi.2.1
      have hcm := hi.2.2.1
      have hmx := hi.2.2.2
      have HML := Lib.hid hi.1
      clear hi
      go_wp2
      go_loop [4] (fun i => ∃ (t : Nat), t ≤ m ∧ i = .int .i64 t ∧ (∀ i, i < t → inR N.length ((N.getD k []).getD i 0) = true)) (fun i => m - (RowKit.intOf i).toNat)
      case atStart => exact ⟨0, Nat.zero_le _, rfl, fun j hj => absurd hj (by omega)⟩
      case round =>
        obtain ⟨t, ht, rfl, hal2⟩ := hrel
        have HAL2 := Lib.hid hal2
        clear hal2
        by_cases hlt2 : t < m
        · rcases hmx with h0 | ⟨b2, off2, rfl, hB2, hc2⟩
          · omega
          · have hcell2 := hc2 t hlt2
            have HC2 := Lib.hid hc2
            clear hc2
            obtain ⟨x, hxx⟩ : ∃ x, (N.getD k []).getD t 0 = x := ⟨_, rfl⟩
            rw [hxx] at hcell2
            have HXX := Lib.hid hxx
            clear hxx
            by_cases hr : 0 ≤ x ∧ x < (n : Int)
            · obtain ⟨hr1, hr2⟩ := hr
              go_wp2
              go_round
              case rel => exact ⟨t + 1, by omega, by go_num, fun j hj => by
                rcases Nat.lt_succ_iff_lt_or_eq.1 hj with h | rfl
                · exact HAL2.out j h
                · rw [HXX.out]; have := HN.out; simp [inR]; omega⟩
              case measure => simp [RowKit.intOf]; omega
            · have hbad : rightB N = false := by
                rw [Bool.eq_false_iff]
                intro h
                have := (rightB_iff N).1 h k (by have := HN.out; omega) t (by have := HML.out; omega)
                rw [HXX.out] at this
                have h3 := HN.out
                simp [inR] at this
                omega
              have HBAD := Lib.hid hbad
              clear hbad
              have hr' : x < 0 ∨ (0 ≤ x ∧ (n : Int) ≤ x) := by omega
              clear hr
              rcases hr' with hr1 | ⟨hr1, hr2⟩
              all_goals
                go_wp2
                go_ret
                exact ⟨ret_bool (by rw [HBAD.out]), rfl⟩
        · have e : t = m := by omega
          subst e
          clear hlt2 ht
          go_wp2
          go_round
          case rel => exact ⟨k + 1, by omega, by go_num, fun j hj => by
            rcases Nat.lt_succ_iff_lt_or_eq.1 hj with h | rfl
            · exact HAL.out j h
            · intro i hi; exact HAL2.out i (by have := HML.out; omega)⟩
          case measure => simp [RowKit.intOf]; omega
    · have e : k = n := by omega
      subst e
      have hgood : rightB N = true := (rightB_iff N).2 (fun j hj => HAL.out j (by have := HN.out; omega))
      have HG := Lib.hid hgood
      clear hgood
      go_wp2
      go_ret
      exact ⟨ret_bool (by rw [HG.out]), rfl⟩

set_option maxHeartbeats 1000000 in
theorem rright_zero (p : Option Addr) (cap : Nat) (w : World) : Calls Try.prog 14 #[.slice p 0 cap] w fun e w' => e = .returned (.bool true) ∧ w = w' := by
  go_enter Try.func14, Try.ntmps14
  go_wp2
  go_loop [3] (fun i => i = .int .i64 0) (fun _ => 0)
  case atStart => rfl
  case round =>
    subst hrel
    go_wp2
    go_ret
    exact ⟨rfl, rfl⟩

theorem rright_any {p : Option Addr} {n cap : Nat} {N : List (List Int)} {w : World} (h : Needs w p n cap N) :
    Calls Try.prog 14 #[.slice p n cap] w fun e w' => e = .returned (.bool (rightB N)) ∧ w = w' := by
  obtain ⟨h1, h2, h3, h4 | ⟨b, off, rfl, hB, hc⟩⟩ := h
  · subst h4
    have e : N = [] := List.eq_nil_of_length_eq_zero h1.symm
    subst e
    exact rright_zero p cap w
  · exact rright_some b off n cap N w h2 h3 h1 hc
end Go.Proofs.Ytnonncjndlcjgaa
