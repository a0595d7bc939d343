/- The reference's functions on bytes: low, Put, Rune, Check. -/
import Derived.Test.YthlofckaljkhhaaDoorCheck
namespace Go.Proofs.YthlofckaljkhhaaDoor
open Go.RowKit Go.Lib

def lowG (g : Nat → Nat) : Nat → Int
  | 0 => 0
  | k + 1 => 64 * lowG g k + (g k : Int) - 128

theorem lowG_bd (g : Nat → Nat) (k : Nat) (hk : k ≤ 3) (h : ∀ j, j < k → 128 ≤ g j ∧ g j ≤ 191) : 0 ≤ lowG g k ∧ lowG g k < 262144 := by
  match k, hk with
  | 0, _ => simp [lowG]
  | 1, _ => have := h 0 (by omega); simp [lowG]; omega
  | 2, _ => have := h 0 (by omega); have := h 1 (by omega); simp [lowG]; omega
  | 3, _ => have := h 0 (by omega); have := h 1 (by omega); have := h 2 (by omega); simp [lowG]; omega

def LowPost (g : Nat → Nat) (m : Nat) (w : World) (e : Ending) (w' : World) : Prop :=
  ((∀ j, j < m → 128 ≤ g j ∧ g j ≤ 191) → e = .returned (.int .i64 (lowG g m))) ∧ ((∃ j, j < m ∧ ¬ (128 ≤ g j ∧ g j ≤ 191)) → e = .returned (.int .i64 (-1))) ∧ w = w'

set_option maxHeartbeats 400000 in
theorem low_any (g : Nat → Nat) (b off m cap : Nat) (hm : m ≤ 3) (w : World) (hp : ∀ j, j < m → w.cell? ⟨b, off + j, none⟩ = some (.int .u8 (g j : Nat))) (hg : ∀ j, g j < 256) :
    Calls Tryd.prog 29 #[.slice (some ⟨b, off, none⟩) m cap] w (LowPost g m w) := by
  go_enter Tryd.func29, Tryd.ntmps29
  go_wp2
  go_loop [3, 4] (fun n i => ∃ k : Nat, k ≤ m ∧ (∀ j, j < k → 128 ≤ g j ∧ g j ≤ 191) ∧ i = .int .i64 k ∧ n = .int .i64 (lowG g k)) (fun _ i => m - (RowKit.intOf i).toNat)
  case atStart => exact ⟨0, Nat.zero_le _, by omega, rfl, rfl⟩
  case round =>
    obtain ⟨k, hk, hal, rfl, rfl⟩ := hrel
    have hbd := lowG_bd g k (by omega) hal
    have hgk := hg k
    by_cases hlt : k < m
    · have hcell := hp k hlt
      have HA := Lib.hid hal
      have HG := Lib.hid hg
      clear hal hp hg
      by_cases h1 : g k < 128
      · go_wp2
        go_ret
        exact ⟨fun h => by have := h k hlt; omega, fun _ => rfl, rfl⟩
      · by_cases h2 : 191 < g k
        · go_wp2
          go_ret
          exact ⟨fun h => by have := h k hlt; omega, fun _ => rfl, rfl⟩
        · go_wp2
          go_round
          case rel => exact ⟨k + 1, by omega, fun j hj => by
            rcases Nat.lt_succ_iff_lt_or_eq.1 hj with h | rfl
            · exact HA.out j h
            · omega, by go_num, by simp [lowG]⟩
          case measure => simp [RowKit.intOf]; omega
    · clear hp hg
      have e : k = m := by omega
      subst e
      have HA := Lib.hid hal
      clear hal
      go_wp2
      go_ret
      exact ⟨fun _ => rfl, fun ⟨j, hj, h⟩ => absurd (HA.out j hj) h, rfl⟩

/-- a character's bytes -/
def putZ (c : Int) : List Int :=
  if c < 128 then [c] else if c < 2048 then [192 + c / 64, 128 + c % 64]
  else if c < 65536 then [224 + c / 4096, 128 + c / 64 % 64, 128 + c % 64]
  else [240 + c / 262144, 128 + c / 4096 % 64, 128 + c / 64 % 64, 128 + c % 64]

def RputPost (c : Int) (w : World) (e : Ending) (w' : World) : Prop :=
  e = .returned (.slice (some ⟨w.heap.size, 0, none⟩) (putZ c).length (putZ c).length) ∧ w' = w.alloc (.cells ((putZ c).map (Value.int .u8)).toArray 5)

set_option maxHeartbeats 400000 in
theorem rput_any (c : Int) (h0 : 0 ≤ c) (h1 : c ≤ 1114111) (w : World) : Calls Tryd.prog 26 #[.int .i64 c] w (RputPost c w) := by
  have hc : c < 128 ∨ (128 ≤ c ∧ c < 2048) ∨ (2048 ≤ c ∧ c < 65536) ∨ 65536 ≤ c := by omega
  rcases hc with h | ⟨h, h'⟩ | ⟨h, h'⟩ | h
  all_goals
    go_enter Tryd.func26, Tryd.ntmps26
    go_wp2
  · go_ret
    have e : putZ c = [c] := by unfold putZ; rw [if_pos h]
    refine ⟨by rw [e]; rfl, by rw [e]; rfl⟩
  · go_ret
    have e : putZ c = [192 + c / 64, 128 + c % 64] := by unfold putZ; rw [if_neg (by omega), if_pos h']
    refine ⟨by rw [e]; rfl, by rw [e]; rfl⟩
  · go_ret
    have e : putZ c = [224 + c / 4096, 128 + c / 64 % 64, 128 + c % 64] := by unfold putZ; rw [if_neg (by omega), if_neg (by omega), if_pos h']
    refine ⟨by rw [e]; rfl, by rw [e]; rfl⟩
  · go_ret
    have e : putZ c = [240 + c / 262144, 128 + c / 4096 % 64, 128 + c / 64 % 64, 128 + c % 64] := by unfold putZ; rw [if_neg (by omega), if_neg (by omega), if_neg (by omega)]
    refine ⟨by rw [e]; rfl, by rw [e]; rfl⟩
end Go.Proofs.YthlofckaljkhhaaDoor
