/- The document's examples, as the law asks them first: alive. -/
import Derived.Test.YtnonncjndlcjgaaSort
namespace Go.Proofs.Ytnonncjndlcjgaa
open Go.RowKit
variable {w : World}

/-! ### Done, by a reckoning -/
def candB (M : List (List Nat)) (L : List Nat) (j : Nat) : Bool := decide (j < M.length) && !(L.contains j) && (M.getD j []).all (fun k => L.contains k)
theorem candB_iff (M : List (List Nat)) (L : List Nat) (j : Nat) : candB M L j = true ↔ Pl.cand M L j := by
  simp [candB, Pl.cand, and_assoc]
def pickB (lt : Nat → Nat → Bool) (M : List (List Nat)) (L : List Nat) (x : Nat) : Bool := candB M L x && (List.range M.length).all fun y => !candB M L y || !lt y x
theorem pickB_ok {lt : Nat → Nat → Bool} {M : List (List Nat)} {L : List Nat} {x : Nat} (h : pickB lt M L x = true) : Pl.Pick lt M L x := by
  simp only [pickB, Bool.and_eq_true, candB_iff, List.all_eq_true, List.mem_range, Bool.or_eq_true, Bool.not_eq_true'] at h
  refine ⟨h.1, fun y hy => ?_⟩
  rcases h.2 y hy.1 with k | k
  · rw [← candB_iff] at hy
    rw [k] at hy
    cases hy
  · exact k
def doneB (lt : Nat → Nat → Bool) (M : List (List Nat)) (L : List Nat) : Bool := ((List.range L.length).all fun i => pickB lt M (L.take i) (L.getD i 0)) && (List.range M.length).all fun j => !candB M L j
theorem doneB_ok {lt : Nat → Nat → Bool} {M : List (List Nat)} {L : List Nat} (h : doneB lt M L = true) : Pl.Done lt M L := by
  simp only [doneB, Bool.and_eq_true, List.all_eq_true, List.mem_range, Bool.not_eq_true'] at h
  refine ⟨fun i hi => pickB_ok (h.1 i hi), fun j hj => ?_⟩
  have := h.2 j hj.1
  rw [← candB_iff] at hj
  rw [this] at hj
  cases hj

def ss1 : List ByteArray := [⟨#[98]⟩, ⟨#[97]⟩, ⟨#[99]⟩]
def ss2 : List ByteArray := [⟨#[97]⟩, ⟨#[98]⟩]
theorem done1 : Pl.Done (ltN fun i => ss1.getD i ByteArray.empty) (natM [[2], [], []]) [1, 2, 0] := doneB_ok (by decide +kernel)
theorem done2 : Pl.Done (ltN fun i => ss2.getD i ByteArray.empty) (natM [[1], [0]]) [] := doneB_ok (by decide +kernel)
theorem spec1 {R : List Nat} {c : Int} (h : SortSpec (fun i => ss1.getD i ByteArray.empty) 3 [[2], [], []] R c) : R = [1, 2, 0] ∧ c = 0 :=
  h.unique (Or.inr (Or.inr ⟨rfl, by decide, _, done1, Or.inr ⟨by decide, rfl, rfl⟩⟩))
theorem spec2 {R : List Nat} {c : Int} (h : SortSpec (fun i => ss2.getD i ByteArray.empty) 2 [[1], [0]] R c) : R = [] ∧ c = 16 :=
  h.unique (Or.inr (Or.inr ⟨rfl, by decide, _, done2, Or.inl ⟨by decide, rfl, rfl⟩⟩))

theorem heap_a (w : World) (o : Obj) : (w.alloc o).heap[w.heap.size]? = some o := heap_alloc_new w o
theorem heap_b (w : World) (o : Obj) {k : Nat} {x : Obj} (h : w.heap[k]? = some x) : (w.alloc o).heap[k]? = some x := by
  rw [Below.heap_alloc w o k (Array.getElem?_eq_some_iff.1 h).1]; exact h

theorem ints_block {b : Nat} {zs : List Int} {cs : Array Value} (hb : w.heap[b]? = some (.cells cs 3 (0, 0))) (hc : ∀ j, j < zs.length → cs[j]? = some (.int .i64 (zs.getD j 0))) (hn : zs.length ≤ 9223372036854775807) : Ints w (some ⟨b, 0, none⟩) zs.length zs.length zs :=
  ⟨rfl, Nat.le_refl _, hn, Or.inr ⟨b, 0, rfl, (Array.getElem?_eq_some_iff.1 hb).1, fun j hj => by rw [cell_of_row w b _ _ _ _ hb, Nat.zero_add]; exact hc j hj⟩⟩
theorem strs_block {b : Nat} {ss : List ByteArray} {cs : Array Value} (hb : w.heap[b]? = some (.cells cs 9 (0, 0))) (hc : ∀ j, j < ss.length → cs[j]? = some (.string (ss.getD j ByteArray.empty))) (hn : ss.length ≤ 9223372036854775807) : Strs w (some ⟨b, 0, none⟩) ss.length ss.length ss :=
  ⟨rfl, Nat.le_refl _, hn, Or.inr ⟨b, 0, rfl, (Array.getElem?_eq_some_iff.1 hb).1, fun j hj => by rw [cell_of_row w b _ _ _ _ hb, Nat.zero_add]; exact hc j hj⟩⟩
theorem ints_nil : Ints w none 0 0 [] := ⟨rfl, Nat.le_refl _, by omega, Or.inl rfl⟩

theorem needs1 {b b' : Nat} (hb : w.heap[b]? = some (.cells #[.int .i64 2] 3 (0, 0))) (hb' : w.heap[b']? = some (.cells #[.slice (some ⟨b, 0, none⟩) 1 1, .slice none 0 0, .slice none 0 0] 26 (0, 0))) : Needs w (some ⟨b', 0, none⟩) 3 3 [[2], [], []] := by
  refine ⟨rfl, by omega, by omega, Or.inr ⟨b', 0, rfl, (Array.getElem?_eq_some_iff.1 hb').1, fun j hj => ?_⟩⟩
  rw [cell_of_row w b' _ _ _ _ hb', Nat.zero_add]
  match j, hj with
  | 0, _ => exact ⟨_, _, _, rfl, ints_block (zs := [2]) hb (fun j hj => by match j, hj with | 0, _ => rfl) (by decide)⟩
  | 1, _ => exact ⟨_, _, _, rfl, ints_nil⟩
  | 2, _ => exact ⟨_, _, _, rfl, ints_nil⟩
theorem needs2 {b c b' : Nat} (hb : w.heap[b]? = some (.cells #[.int .i64 1] 3 (0, 0))) (hc : w.heap[c]? = some (.cells #[.int .i64 0] 3 (0, 0))) (hb' : w.heap[b']? = some (.cells #[.slice (some ⟨b, 0, none⟩) 1 1, .slice (some ⟨c, 0, none⟩) 1 1] 26 (0, 0))) : Needs w (some ⟨b', 0, none⟩) 2 2 [[1], [0]] := by
  refine ⟨rfl, by omega, by omega, Or.inr ⟨b', 0, rfl, (Array.getElem?_eq_some_iff.1 hb').1, fun j hj => ?_⟩⟩
  rw [cell_of_row w b' _ _ _ _ hb', Nat.zero_add]
  match j, hj with
  | 0, _ => exact ⟨_, _, _, rfl, ints_block (zs := [1]) hb (fun j hj => by match j, hj with | 0, _ => rfl) (by decide)⟩
  | 1, _ => exact ⟨_, _, _, rfl, ints_block (zs := [0]) hc (fun j hj => by match j, hj with | 0, _ => rfl) (by decide)⟩
theorem strs1 {b : Nat} (hb : w.heap[b]? = some (.cells #[.string ⟨#[98]⟩, .string ⟨#[97]⟩, .string ⟨#[99]⟩] 9 (0, 0))) : Strs w (some ⟨b, 0, none⟩) 3 3 ss1 :=
  strs_block (ss := ss1) hb (fun j hj => by match j, hj with | 0, _ => rfl | 1, _ => rfl | 2, _ => rfl) (by decide)
theorem strs2 {b : Nat} (hb : w.heap[b]? = some (.cells #[.string ⟨#[97]⟩, .string ⟨#[98]⟩] 9 (0, 0))) : Strs w (some ⟨b, 0, none⟩) 2 2 ss2 :=
  strs_block (ss := ss2) hb (fun j hj => by match j, hj with | 0, _ => rfl | 1, _ => rfl) (by decide)

theorem size_a (w : World) (o : Obj) : (w.alloc o).heap.size = w.heap.size + 1 := by simp
/-- two, three, four new blocks -/
theorem heap_2 (w : World) (o o1 : Obj) : ((w.alloc o).alloc o1).heap[w.heap.size + 1]? = some o1 := by
  have h := heap_a (w.alloc o) o1
  rw [size_a] at h
  exact h
theorem heap_3 (w : World) (o o1 o2 : Obj) : (((w.alloc o).alloc o1).alloc o2).heap[w.heap.size + 1 + 1]? = some o2 := by
  have h := heap_2 (w.alloc o) o1 o2
  rw [size_a] at h
  exact h
theorem heap_4 (w : World) (o o1 o2 o3 : Obj) : ((((w.alloc o).alloc o1).alloc o2).alloc o3).heap[w.heap.size + 1 + 1 + 1]? = some o3 := by
  have h := heap_3 (w.alloc o) o1 o2 o3
  rw [size_a] at h
  exact h

def AliveA (w : World) (e : Ending) (w' : World) : Prop :=
  Below w.heap.size w w' ∧ ∃ p c, e = .returned (.tuple #[.slice p 3 c, .int .i64 0]) ∧ Ints w' p 3 c [1, 2, 0]
def AliveB (w : World) (e : Ending) (w' : World) : Prop :=
  Below w.heap.size w w' ∧ ∃ v, e = .returned (.tuple #[v, .int .i64 16])

theorem alive_one (w : World) {o o1 o2 : Obj} (h : o = .cells #[.string ⟨#[98]⟩, .string ⟨#[97]⟩, .string ⟨#[99]⟩] 9) (h1 : o1 = .cells #[.int .i64 2] 3) (h2 : o2 = .cells #[.slice (some ⟨w.heap.size + 1, 0, none⟩) 1 1, .slice none 0 0, .slice none 0 0] 26) :
    Calls Try.prog 11 #[.slice (some ⟨w.heap.size, 0, none⟩) 3 3, .slice (some ⟨w.heap.size + 1 + 1, 0, none⟩) 3 3] (((w.alloc o).alloc o1).alloc o2) (AliveA w) := by
  subst h h1 h2
  refine (sort_any (ss := ss1) (N := [[2], [], []]) (strs1 (heap_b _ _ (heap_b _ _ (heap_a _ _)))) (needs1 (heap_b _ _ (heap_2 _ _ _)) (heap_3 _ _ _ _)) (fun _ => by decide)).mono ?_
  rintro e w' ⟨hb, R, c, v, hs, he, hown⟩
  obtain ⟨rfl, rfl⟩ := spec1 hs
  obtain ⟨p, cc, rfl, hi⟩ := ints_of_own hown
  refine ⟨?_, p, cc, he, hi⟩
  refine ((((Below.refl _ w).alloc (Nat.le_refl _) _).alloc (by simp) _).alloc (by simp; omega) _).trans (hb.mono (by simp; omega))

theorem alive_two (w : World) {o o1 o2 o3 : Obj} (h : o = .cells #[.string ⟨#[97]⟩, .string ⟨#[98]⟩] 9) (h1 : o1 = .cells #[.int .i64 1] 3) (h2 : o2 = .cells #[.int .i64 0] 3)
    (h3 : o3 = .cells #[.slice (some ⟨w.heap.size + 1, 0, none⟩) 1 1, .slice (some ⟨w.heap.size + 1 + 1, 0, none⟩) 1 1] 26) :
    Calls Try.prog 11 #[.slice (some ⟨w.heap.size, 0, none⟩) 2 2, .slice (some ⟨w.heap.size + 1 + 1 + 1, 0, none⟩) 2 2] ((((w.alloc o).alloc o1).alloc o2).alloc o3) (AliveB w) := by
  subst h h1 h2 h3
  refine (sort_any (ss := ss2) (N := [[1], [0]]) (strs2 (heap_b _ _ (heap_b _ _ (heap_b _ _ (heap_a _ _))))) (needs2 (heap_b _ _ (heap_b _ _ (heap_2 _ _ _))) (heap_b _ _ (heap_3 _ _ _ _)) (heap_4 _ _ _ _ _)) (fun _ => by decide)).mono ?_
  rintro e w' ⟨hb, R, c, v, hs, he, hown⟩
  obtain ⟨rfl, rfl⟩ := spec2 hs
  refine ⟨?_, v, he⟩
  refine (((((Below.refl _ w).alloc (Nat.le_refl _) _).alloc (by simp) _).alloc (by simp; omega) _).alloc (by simp; omega) _).trans (hb.mono (by simp; omega))

set_option maxHeartbeats 2000000 in
theorem alive_any (w : World) : Calls Try.prog 9 #[] w fun e w' => e = .returned (.bool true) ∧ Below w.heap.size w w' := by
  go_enter Try.func9, Try.ntmps9
  go_wp2_with fail
  refine (alive_one w rfl rfl rfl).mono ?_
  rintro e w1 ⟨hb1, p, c, rfl, hi⟩
  have HB1 := Lib.hid hb1
  have HI := Lib.hid hi
  clear hb1 hi
  go_wp2_with fail
  refine (alive_two w1 rfl rfl rfl rfl).mono ?_
  rintro e w2 ⟨hb2, v, rfl⟩
  have HB2 := Lib.hid hb2
  have HI2 : Hid (Ints (w2.alloc (.cells #[.int .i64 1, .int .i64 2, .int .i64 0] 3)) p 3 c [1, 2, 0]) := Lib.hid ((HI.out.below hb2).below ((Below.refl _ _).alloc (Nat.le_refl _) _))
  have HL : Hid (Ints (w2.alloc (.cells #[.int .i64 1, .int .i64 2, .int .i64 0] 3)) (some ⟨w2.heap.size, 0, none⟩) 3 3 [1, 2, 0]) := Lib.hid (ints_block (zs := [1, 2, 0]) (heap_a _ _) (fun j hj => by match j, hj with | 0, _ => rfl | 1, _ => rfl | 2, _ => rfl) (by decide))
  have SM := Lib.hid (same_any HI2.out HL.out)
  clear hb2
  go_wp2_with fail
  refine SM.out.mono ?_
  rintro e w3 ⟨rfl, hb3⟩
  have HB3 := Lib.hid hb3
  clear hb3
  go_wp2_with fail
  go_ret
  refine ⟨rfl, (HB1.out.trans (HB2.out.mono HB1.out.size)).trans ?_⟩
  exact ((Below.refl _ _).alloc (by have h1 := HB1.out.size; have h2 := HB2.out.size; omega) _).trans (HB3.out.mono (by have h1 := HB1.out.size; have h2 := HB2.out.size; simp; omega))
end Go.Proofs.Ytnonncjndlcjgaa
