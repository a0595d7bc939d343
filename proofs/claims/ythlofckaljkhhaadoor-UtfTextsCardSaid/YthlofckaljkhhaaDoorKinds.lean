/- The contracts of the functions of one integer (which kinds of character): each returns what the plain function says, and the world stays as it was. -/
import Derived.Test.YthlofckaljkhhaaDoorRows
import Derived.WalkKit
import Derived.BigQuiet
namespace Go.Proofs.YthlofckaljkhhaaDoor
open Go.RowKit

theorem ret_bool {a b : Bool} (h : a = b) : Ending.returned (.bool a) = .returned (.bool b) := by rw [h]
theorem ret_int {k : IntKind} {a b : Int} (h : a = b) : Ending.returned (.int k a) = .returned (.int k b) := by rw [h]

def fineB (c : Int) : Bool := decide (c = 9 ∨ c = 10 ∨ c = 13 ∨ (32 ≤ c ∧ c ≤ 55295) ∨ (57344 ≤ c ∧ c ≤ 65533) ∨ (65536 ≤ c ∧ c ≤ 1114111))
def spaceB (c : Int) : Bool := decide (c = 9 ∨ c = 10 ∨ c = 13 ∨ c = 32)
def firstB (c : Int) : Bool := decide ((65 ≤ c ∧ c ≤ 90) ∨ (97 ≤ c ∧ c ≤ 122) ∨ c = 95 ∨ (192 ≤ c ∧ c ≠ 215 ∧ c ≠ 247 ∧ ((c ≤ 55295) ∨ (57344 ≤ c ∧ c ≤ 65533) ∨ (65536 ≤ c ∧ c ≤ 1114111))))
def nextB (c : Int) : Bool := firstB c || decide (48 ≤ c ∧ c ≤ 57)
def partB (c : Int) : Bool := nextB c || decide (c = 45 ∨ c = 46 ∨ c = 183)

theorem fineB_yes {c : Int} (h : c = 9 ∨ c = 10 ∨ c = 13 ∨ (32 ≤ c ∧ c ≤ 55295) ∨ (57344 ≤ c ∧ c ≤ 65533) ∨ (65536 ≤ c ∧ c ≤ 1114111)) : fineB c = true := by simp [fineB]; omega
theorem fineB_no {c : Int} (h : ¬ (c = 9 ∨ c = 10 ∨ c = 13 ∨ (32 ≤ c ∧ c ≤ 55295) ∨ (57344 ≤ c ∧ c ≤ 65533) ∨ (65536 ≤ c ∧ c ≤ 1114111))) : fineB c = false := by simp [fineB]; omega

set_option maxHeartbeats 400000 in
theorem rfine_any (c : Int) (w : World) : Calls Tryd.prog 21 #[.int .i64 c] w fun e w' => e = .returned (.bool (fineB c)) ∧ w = w' := by
  go_enter Tryd.func21, Tryd.ntmps21
  go_wp2
  all_goals go_ret
  all_goals exact ⟨ret_bool (by rw [Bool.eq_iff_iff]; simp [fineB]; try omega), rfl⟩

set_option maxHeartbeats 400000 in
theorem rspace_any (c : Int) (w : World) : Calls Tryd.prog 22 #[.int .i64 c] w fun e w' => e = .returned (.bool (spaceB c)) ∧ w = w' := by
  go_enter Tryd.func22, Tryd.ntmps22
  go_wp2
  all_goals go_ret
  all_goals exact ⟨ret_bool (by rw [Bool.eq_iff_iff]; simp [spaceB]; try omega), rfl⟩

set_option maxHeartbeats 400000 in
theorem space_any (c : Int) (w : World) : Calls Tryd.prog 19 #[.int .i64 c] w fun e w' => e = .returned (.bool (spaceB c)) ∧ w = w' := by
  go_enter Tryd.func19, Tryd.ntmps19
  go_wp2
  all_goals go_ret
  all_goals exact ⟨ret_bool (by rw [Bool.eq_iff_iff]; simp [spaceB]; try omega), rfl⟩

set_option maxHeartbeats 400000 in
theorem fine_any (c : Int) (w : World) : Calls Tryd.prog 18 #[.int .i64 c] w fun e w' => e = .returned (.bool (fineB c)) ∧ w = w' := by
  have h : c < 32 ∨ 1114111 < c ∨ c = 65534 ∨ c = 65535 ∨ (32 ≤ c ∧ c ≤ 1114111 ∧ c ≠ 65534 ∧ c ≠ 65535) := by omega
  rcases h with h | h | rfl | rfl | ⟨h1, h2, h3, h4⟩
  case inr.inr.inr.inr =>
    have e1 : (c == 65534) = false := beq_eq_false_iff_ne.2 h3
    have e2 : (c == 65535) = false := beq_eq_false_iff_ne.2 h4
    have h5 : c ≤ 65533 ∨ 65536 ≤ c := by omega
    clear h3 h4
    go_enter Tryd.func18, Tryd.ntmps18
    go_wp2
    all_goals go_ret
    all_goals exact ⟨ret_bool (by rw [Bool.eq_iff_iff]; simp [fineB]; try omega), rfl⟩
  all_goals
    go_enter Tryd.func18, Tryd.ntmps18
    go_wp2
  all_goals go_ret
  all_goals exact ⟨ret_bool (by rw [Bool.eq_iff_iff]; simp [fineB]; try omega), rfl⟩

set_option maxHeartbeats 400000 in
theorem first_any (c : Int) (w : World) : Calls Tryd.prog 14 #[.int .i64 c] w fun e w' => e = .returned (.bool (firstB c)) ∧ w = w' := by
  go_enter Tryd.func14, Tryd.ntmps14
  go_wp2_with (go_at_call 18; refine (fine_any _ _).mono ?_; rintro e w' ⟨rfl, rfl⟩)
  all_goals go_ret
  all_goals first
    | exact ⟨ret_bool (by rw [Bool.eq_iff_iff]; simp [firstB, fineB]; try omega), rfl⟩
    | exact ⟨ret_bool (by simp only [beq_iff_eq, beq_eq_false_iff_ne, ne_eq] at *; rw [Bool.eq_iff_iff]; simp [firstB, fineB]; try omega), rfl⟩

set_option maxHeartbeats 400000 in
theorem rfirst_any (c : Int) (w : World) : Calls Tryd.prog 23 #[.int .i64 c] w fun e w' => e = .returned (.bool (firstB c)) ∧ w = w' := by
  go_enter Tryd.func23, Tryd.ntmps23
  go_wp2_with (go_at_call 21; refine (rfine_any _ _).mono ?_; rintro e w' ⟨rfl, rfl⟩)
  all_goals go_ret
  all_goals first
    | exact ⟨ret_bool (by rw [Bool.eq_iff_iff]; simp [firstB, fineB]; try omega), rfl⟩
    | exact ⟨ret_bool (by simp only [beq_iff_eq, beq_eq_false_iff_ne, ne_eq] at *; rw [Bool.eq_iff_iff]; simp [firstB, fineB]; try omega), rfl⟩

set_option maxHeartbeats 400000 in
theorem start_any (c : Int) (w : World) : Calls Tryd.prog 16 #[.int .i64 c] w fun e w' => e = .returned (.bool (firstB c)) ∧ w = w' := by
  go_enter Tryd.func16, Tryd.ntmps16
  go_wp2_with (go_at_call 14; refine (first_any _ _).mono ?_; rintro e w' ⟨rfl, rfl⟩)
  go_ret
  exact ⟨rfl, rfl⟩

set_option maxHeartbeats 400000 in
theorem next_any (c : Int) (w : World) : Calls Tryd.prog 15 #[.int .i64 c] w fun e w' => e = .returned (.bool (nextB c)) ∧ w = w' := by
  go_enter Tryd.func15, Tryd.ntmps15
  go_wp2_with (go_at_call 14; refine (first_any _ _).mono ?_; rintro e w' ⟨rfl, rfl⟩)
  all_goals go_ret
  all_goals exact ⟨ret_bool (by rw [Bool.eq_iff_iff]; simp [nextB, *]; try omega), rfl⟩

set_option maxHeartbeats 400000 in
theorem rnext_any (c : Int) (w : World) : Calls Tryd.prog 24 #[.int .i64 c] w fun e w' => e = .returned (.bool (nextB c)) ∧ w = w' := by
  go_enter Tryd.func24, Tryd.ntmps24
  go_wp2_with (go_at_call 23; refine (rfirst_any _ _).mono ?_; rintro e w' ⟨rfl, rfl⟩)
  all_goals go_ret
  all_goals exact ⟨ret_bool (by rw [Bool.eq_iff_iff]; simp [nextB, *]; try omega), rfl⟩

set_option maxHeartbeats 400000 in
theorem part_any (c : Int) (w : World) : Calls Tryd.prog 17 #[.int .i64 c] w fun e w' => e = .returned (.bool (partB c)) ∧ w = w' := by
  go_enter Tryd.func17, Tryd.ntmps17
  go_wp2_with (go_at_call 15; refine (next_any _ _).mono ?_; rintro e w' ⟨rfl, rfl⟩)
  all_goals go_ret
  all_goals exact ⟨ret_bool (by rw [Bool.eq_iff_iff]; simp [partB, *]; try omega), rfl⟩

set_option maxHeartbeats 400000 in
theorem rpart_any (c : Int) (w : World) : Calls Tryd.prog 25 #[.int .i64 c] w fun e w' => e = .returned (.bool (partB c)) ∧ w = w' := by
  go_enter Tryd.func25, Tryd.ntmps25
  go_wp2_with (go_at_call 24; refine (rnext_any _ _).mono ?_; rintro e w' ⟨rfl, rfl⟩)
  all_goals go_ret
  all_goals exact ⟨ret_bool (by rw [Bool.eq_iff_iff]; simp [partB, *]; try omega), rfl⟩

theorem fine_yes {c : Int} (h : fineB c = true) (w : World) : Calls Tryd.prog 18 #[.int .i64 c] w fun e w' => e = .returned (.bool true) ∧ w = w' := by
  have := fine_any c w; rw [h] at this; exact this
theorem fine_no {c : Int} (h : fineB c = false) (w : World) : Calls Tryd.prog 18 #[.int .i64 c] w fun e w' => e = .returned (.bool false) ∧ w = w' := by
  have := fine_any c w; rw [h] at this; exact this
theorem rfine_yes {c : Int} (h : fineB c = true) (w : World) : Calls Tryd.prog 21 #[.int .i64 c] w fun e w' => e = .returned (.bool true) ∧ w = w' := by
  have := rfine_any c w; rw [h] at this; exact this
theorem rfine_no {c : Int} (h : fineB c = false) (w : World) : Calls Tryd.prog 21 #[.int .i64 c] w fun e w' => e = .returned (.bool false) ∧ w = w' := by
  have := rfine_any c w; rw [h] at this; exact this
end Go.Proofs.YthlofckaljkhhaaDoor
