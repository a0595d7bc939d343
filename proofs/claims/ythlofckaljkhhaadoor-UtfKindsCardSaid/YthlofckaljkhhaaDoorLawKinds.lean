/- UtfKinds: each first one is another one, too, and no blank; the law's walk: it returns true, for every integer. -/
import Derived.Test.YthlofckaljkhhaaDoorPut
namespace Go.Proofs.YthlofckaljkhhaaDoor
open Go.RowKit Go.Lib

def cnt : Nat → Int
  | 0 => 0
  | k + 1 => cnt k + (if firstB (k : Int) then 1 else 0) + (if nextB (k : Int) then 100 else 0) + (if spaceB (k : Int) then 10000 else 0)
theorem cnt_bd : ∀ k, 0 ≤ cnt k ∧ cnt k ≤ 10101 * k
  | 0 => by simp [cnt]
  | k + 1 => by
    have h := cnt_bd k
    unfold cnt
    repeat' split
    all_goals omega
theorem cnt_end : cnt 128 = 46353 := by decide +kernel

theorem first_next {c : Int} (h : firstB c = true) : nextB c = true ∧ partB c = true ∧ fineB c = true ∧ spaceB c = false := by
  have h2 : nextB c = true := by simp [nextB, h]
  refine ⟨h2, by simp [partB, h2], ?_, ?_⟩
  · simp [firstB] at h; simp [fineB]; omega
  · simp [firstB] at h; simp [spaceB]; omega
theorem next_part {c : Int} (h : nextB c = true) : partB c = true ∧ fineB c = true ∧ spaceB c = false := by
  refine ⟨by simp [partB, h], ?_, ?_⟩
  · simp [nextB, firstB] at h; simp [fineB]; omega
  · simp [nextB, firstB] at h; simp [spaceB]; omega
theorem space_part {c : Int} (h : spaceB c = true) : partB c = false ∧ fineB c = true := by
  refine ⟨?_, ?_⟩
  · simp [spaceB] at h; simp [partB, nextB, firstB]; omega
  · simp [spaceB] at h; simp [fineB]; omega

def TrueBelow (w : World) (e : Ending) (w' : World) : Prop := e = .returned (.bool true) ∧ Below w.heap.size w w'

set_option maxRecDepth 100000 in
set_option maxHeartbeats 2000000 in
theorem kinds_walk (c : Int) (w : World) (hE : Env w) : Calls Tryd.prog 4 #[.int .i64 c] w (TrueBelow w) := by
  have HE := Lib.hid hE
  clear hE
  have hc : (firstB c = true ∧ nextB c = true ∧ partB c = true ∧ fineB c = true ∧ spaceB c = false) ∨ (firstB c = false ∧ nextB c = true ∧ partB c = true ∧ fineB c = true ∧ spaceB c = false)
      ∨ (firstB c = false ∧ nextB c = false ∧ spaceB c = true ∧ partB c = false ∧ fineB c = true) ∨ (firstB c = false ∧ nextB c = false ∧ spaceB c = false) := by
    cases h1 : firstB c with
    | true => exact Or.inl ⟨rfl, first_next h1⟩
    | false =>
      cases h2 : nextB c with
      | true => exact Or.inr (Or.inl ⟨rfl, rfl, next_part h2⟩)
      | false =>
        cases h3 : spaceB c with
        | true => exact Or.inr (Or.inr (Or.inl ⟨rfl, rfl, rfl, space_part h3⟩))
        | false => exact Or.inr (Or.inr (Or.inr ⟨rfl, rfl, rfl⟩))
  rcases hc with ⟨h1, h2, h3, h4, h5⟩ | ⟨h1, h2, h3, h4, h5⟩ | ⟨h1, h2, h3, h4, h5⟩ | ⟨h1, h2, h3⟩
  all_goals
    go_enter Tryd.func4, Tryd.ntmps4
    go_wp2_with (first | (go_at_call 14; refine (first_any _ _).mono ?_; rintro e w' ⟨rfl, rfl⟩) | (go_at_call 15; refine (next_any _ _).mono ?_; rintro e w' ⟨rfl, rfl⟩) | (go_at_call 16; refine (start_any _ _).mono ?_; rintro e w' ⟨rfl, rfl⟩) | (go_at_call 17; refine (part_any _ _).mono ?_; rintro e w' ⟨rfl, rfl⟩) | (go_at_call 18; refine (fine_any _ _).mono ?_; rintro e w' ⟨rfl, rfl⟩) | (go_at_call 19; refine (space_any _ _).mono ?_; rintro e w' ⟨rfl, rfl⟩))
    clear h1 h2 h3
    try clear h4 h5
    go_loop [3, 48] (fun n i => ∃ k : Nat, k ≤ 128 ∧ i = .int .i64 k ∧ n = .int .i64 (cnt k)) (fun _ i => 128 - (RowKit.intOf i).toNat)
    case atStart => exact ⟨0, by omega, rfl, rfl⟩
    case round =>
      obtain ⟨k, hk, rfl, rfl⟩ := hrel
      have hb := cnt_bd k
      by_cases hlt : k < 128
      · cases h1 : firstB (k : Int) <;> cases h2 : nextB (k : Int) <;> cases h3 : spaceB (k : Int)
        all_goals
          have HC : Hid (cnt (k + 1) = cnt k + (if firstB (k : Int) then 1 else 0) + (if nextB (k : Int) then 100 else 0) + (if spaceB (k : Int) then 10000 else 0)) := rfl
          have hco := HC.out
          rw [h1, h2, h3] at hco
          have HCO := Lib.hid hco
          clear hco HC
          go_wp2_with (first | (go_at_call 14; refine (first_any _ _).mono ?_; rintro e w' ⟨rfl, rfl⟩) | (go_at_call 15; refine (next_any _ _).mono ?_; rintro e w' ⟨rfl, rfl⟩) | (go_at_call 19; refine (space_any _ _).mono ?_; rintro e w' ⟨rfl, rfl⟩))
          go_round
          case rel => exact ⟨k + 1, by omega, by go_num, by rw [HCO.out]; simp⟩
          case measure => simp [RowKit.intOf]; omega
      · obtain rfl : k = 128 := by omega
        clear hlt hk hb
        have h46 := cnt_end
        go_wp2_with (go_at_call 12; refine (alive_any _ HE.out).mono ?_; rintro e w' ⟨rfl, hb⟩; have HB := Lib.hid hb; clear hb)
        go_ret
        exact ⟨rfl, HB.out⟩
end Go.Proofs.YthlofckaljkhhaaDoor
