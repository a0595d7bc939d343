/- Which blocks a call may turn, told by their number and their elements' type; rows that a call owns, carried over. -/
import Derived.Test.YtnonncjndlcjgaaMem
import Derived.Test.YtnonncjndlcjgaaPlHeap
namespace Go.Proofs.Ytnonncjndlcjgaa
open Go.RowKit

/-- the type of a block's elements -/
def elemT : Obj → Option TypeId
  | .cells _ e _ => some e
  | _ => none

/-- w' is w, but for new blocks and for those that T lets turn -/
structure Fr (T : Nat → Obj → Prop) (w w' : World) : Prop where
  os : w'.os = w.os
  tape : w'.tape = w.tape
  output : w'.output = w.output
  size : w.heap.size ≤ w'.heap.size
  keep : ∀ k o, w.heap[k]? = some o → ¬ T k o → w'.heap[k]? = some o

variable {T : Nat → Obj → Prop}

theorem Fr.refl (w : World) : Fr T w w := ⟨rfl, rfl, rfl, Nat.le_refl _, fun _ _ h _ => h⟩
theorem Fr.trans {a b c : World} (h : Fr T a b) (k : Fr T b c) : Fr T a c :=
  ⟨k.os.trans h.os, k.tape.trans h.tape, k.output.trans h.output, Nat.le_trans h.size k.size, fun i o hi ho => k.keep i o (h.keep i o hi ho) ho⟩
theorem Fr.mono {T' : Nat → Obj → Prop} {a b : World} (h : Fr T a b) (hT : ∀ k o, T k o → T' k o) : Fr T' a b :=
  ⟨h.os, h.tape, h.output, h.size, fun k o hk ho => h.keep k o hk (fun t => ho (hT k o t))⟩
theorem Fr.drew {a w : World} (h : Fr T a w) : Fr T a w.drew := ⟨h.os, h.tape, h.output, h.size, h.keep⟩
theorem Fr.drewN (w : World) (q : Nat) : Fr T w (w.drewN q) := ⟨rfl, rfl, rfl, Nat.le_refl _, fun _ _ h _ => h⟩
theorem Fr.alloc {a w : World} (h : Fr T a w) (o : Obj) : Fr T a (w.alloc o) :=
  h.trans ⟨rfl, rfl, rfl, by simp, fun k o' hk _ => by rw [Below.heap_alloc w o k (Array.getElem?_eq_some_iff.1 hk).1]; exact hk⟩
theorem Fr.setCell {a w : World} (h : Fr T a w) (p : Addr) (u : Value) (hp : ∀ o, w.heap[p.block]? = some o → T p.block o) : Fr T a (w.setCell p u) :=
  h.trans ⟨rfl, rfl, rfl, by simp [World.setCell], fun k o hk ho => by
    by_cases e : k = p.block
    · subst e; exact absurd (hp o hk) ho
    · rw [heap_setCell_other w p k u e]; exact hk⟩
theorem Fr.grown {a w w' : World} {row : Option Nat} (h : Fr T a w) (hg : w.grownBy w' row) (hr : ∀ k o, row = some k → w.heap[k]? = some o → T k o) : Fr T a w' :=
  h.trans ⟨hg.os, hg.tape, hg.output, hg.size, fun k o hk ho => by
    rw [hg.block k (Array.getElem?_eq_some_iff.1 hk).1 (fun e => ho (hr k o e.symm hk))]; exact hk⟩
theorem Fr.below {a w : World} {B : Nat} (h : Fr T a w) (hB : B ≤ a.heap.size) (hT : ∀ k o, k < B → ¬ T k o) : Below B a w :=
  ⟨h.os, h.tape, h.output, h.size, fun k hk => by
    obtain ⟨o, ho⟩ : ∃ o, a.heap[k]? = some o := ⟨a.heap[k], Array.getElem?_eq_getElem (by omega)⟩
    rw [ho, h.keep k o ho (hT k o hk)]⟩
theorem Fr.cell {a w : World} {p : Addr} {v : Value} (h : Fr T a w) (hc : a.cell? p = some v) (hT : ∀ o, a.heap[p.block]? = some o → ¬ T p.block o) : w.cell? p = some v := by
  have hb := World.block_lt_of_cell? a p hc
  obtain ⟨o, ho⟩ : ∃ o, a.heap[p.block]? = some o := ⟨a.heap[p.block], Array.getElem?_eq_getElem hb⟩
  exact (World.cell?_of_block (w := a) (by rw [ho]; exact h.keep _ o ho (hT o ho))).trans hc

/-- a row that none may turn stays owned -/
theorem Fr.row {a w : World} {base : Nat} {e : TypeId} {size : Nat} {v : Value} {n : Nat} {xs : List Value} (h : Fr T a w) (hr : a.ownsRow base e size v n xs)
    (hT : ∀ k o, v.ownBlock = some k → elemT o = some e → ¬ T k o) : w.ownsRow base e size v n xs := by
  obtain ⟨h1, h2⟩ := hr
  refine ⟨h1, ?_⟩
  rcases h2 with h2 | ⟨g, cap, cur, rfl, hg, hh, r⟩
  · exact Or.inl h2
  · exact Or.inr ⟨g, cap, cur, rfl, hg, h.keep g _ hh (hT g _ rfl rfl), r⟩

/-! ### the queue -/
/-- the things' cells: a name, a number -/
def flat (nm : Nat → ByteArray) : List Nat → List Value
  | [] => []
  | x :: r => .string (nm x) :: .int .i64 (x : Nat) :: flat nm r

theorem flat_length (nm : Nat → ByteArray) (H : List Nat) : (flat nm H).length = H.length * 2 := by
  induction H with
  | nil => rfl
  | cons x r ih => simp [flat, ih]; omega
theorem flat_append (nm : Nat → ByteArray) (H K : List Nat) : flat nm (H ++ K) = flat nm H ++ flat nm K := by
  induction H with
  | nil => rfl
  | cons x r ih => simp [flat, ih]
theorem flat_name (nm : Nat → ByteArray) (H : List Nat) (j : Nat) (hj : j < H.length) : (flat nm H)[j * 2]? = some (.string (nm (H.getD j 0))) := by
  induction H generalizing j with
  | nil => simp at hj
  | cons x r ih =>
    cases j with
    | zero => simp [flat]
    | succ j =>
      have := ih j (by simpa using hj)
      rw [show (j + 1) * 2 = j * 2 + 2 by omega]
      simpa [flat] using this
theorem flat_num (nm : Nat → ByteArray) (H : List Nat) (j : Nat) (hj : j < H.length) : (flat nm H)[j * 2 + 1]? = some (.int .i64 (H.getD j 0 : Nat)) := by
  induction H generalizing j with
  | nil => simp at hj
  | cons x r ih =>
    cases j with
    | zero => simp [flat]
    | succ j =>
      have := ih j (by simpa using hj)
      rw [show (j + 1) * 2 + 1 = j * 2 + 1 + 2 by omega]
      simpa [flat] using this
theorem flat_set (nm : Nat → ByteArray) (H : List Nat) (j x : Nat) (hj : j < H.length) : ((flat nm H).set (j * 2) (.string (nm x))).set (j * 2 + 1) (.int .i64 (x : Nat)) = flat nm (H.set j x) := by
  induction H generalizing j with
  | nil => simp at hj
  | cons y r ih =>
    cases j with
    | zero => simp [flat]
    | succ j =>
      have := ih j (by simpa using hj)
      rw [show (j + 1) * 2 = j * 2 + 2 by omega, show j * 2 + 2 + 1 = j * 2 + 1 + 2 by omega]
      simp [flat, this]

/-- the model's '<' on strings is the order of the lists of bytes -/
theorem less_lists : ∀ (x y : List UInt8), Op.bytesLess x y = decide (x < y)
  | [], [] => by simp [Op.bytesLess]
  | _ :: _, [] => by simp [Op.bytesLess]
  | [], _ :: _ => by simp [Op.bytesLess]
  | a :: x, b :: y => by
    have ih := less_lists x y
    simp only [Op.bytesLess, ih, List.cons_lt_cons_iff]
    by_cases p : a < b <;> by_cases q : a = b <;> by_cases r : x < y <;> simp [p, q, r]

/-- the order of two things: by name, then by number -/
def thB (s t : ByteArray) (a b : Int) : Bool := if s.toList = t.toList then decide (a < b) else Op.bytesLess s.toList t.toList
def ltN (nm : Nat → ByteArray) (a b : Nat) : Bool := thB (nm a) (nm b) a b

theorem ltN_so (nm : Nat → ByteArray) : Pl.SO (ltN nm) := by
  refine ⟨fun a => by simp [ltN, thB], fun a b c h1 h2 => ?_, fun a b hab => ?_⟩
  · unfold ltN thB at *
    simp only [less_lists] at *
    by_cases e1 : (nm a).toList = (nm b).toList
    · rw [if_pos e1] at h1
      rw [e1]
      by_cases e2 : (nm b).toList = (nm c).toList
      · rw [if_pos e2] at h2 ⊢
        simp at h1 h2 ⊢
        omega
      · rw [if_neg e2] at h2 ⊢
        exact h2
    · rw [if_neg e1] at h1
      by_cases e2 : (nm b).toList = (nm c).toList
      · rw [← e2, if_neg e1]
        exact h1
      · rw [if_neg e2] at h2
        have h3 := List.lt_trans (of_decide_eq_true h1) (of_decide_eq_true h2)
        rw [if_neg (fun e => by rw [e] at h3; exact absurd h3 (List.lt_irrefl _))]
        exact decide_eq_true h3
  · unfold ltN thB
    simp only [less_lists]
    by_cases e1 : (nm a).toList = (nm b).toList
    · rw [if_pos e1, if_pos e1.symm]
      simp
      omega
    · rw [if_neg e1, if_neg (Ne.symm e1)]
      simp only [decide_eq_true_eq]
      exact Decidable.or_iff_not_imp_left.2 fun h => (List.le_iff_lt_or_eq.1 (List.not_lt.1 h)).resolve_right (fun e => e1 e.symm)

/-- the queue at block qa: its things -/
structure QAt (nm : Nat → ByteArray) (B : Nat) (w : World) (qa : Nat) (H : List Nat) (v : Value) : Prop where
  old : B ≤ qa
  box : w.heap[qa]? = some (.cells #[v] 55 (0, 0))
  row : w.ownsRow B 58 2 v H.length (flat nm H)

/-- what the queue's calls may turn -/
def QT (B : Nat) (k : Nat) (o : Obj) : Prop := B ≤ k ∧ (elemT o = some 55 ∨ elemT o = some 58)

theorem QAt.drewN {nm : Nat → ByteArray} {B : Nat} {w : World} {qa : Nat} {H : List Nat} {v : Value} (h : QAt nm B w qa H v) (q : Nat) : QAt nm B (w.drewN q) qa H v := ⟨h.old, h.box, h.row⟩
theorem QAt.drew {nm : Nat → ByteArray} {B : Nat} {w : World} {qa : Nat} {H : List Nat} {v : Value} (h : QAt nm B w qa H v) : QAt nm B w.drew qa H v := ⟨h.old, h.box, h.row⟩
theorem QAt.cell {nm : Nat → ByteArray} {B : Nat} {w : World} {qa : Nat} {H : List Nat} {v : Value} (h : QAt nm B w qa H v) : w.cell? ⟨qa, 0, none⟩ = some v := by
  rw [cell_of_row w qa 0 _ _ _ h.box]; rfl
theorem QAt.free {nm : Nat → ByteArray} {B : Nat} {w : World} {qa : Nat} {H : List Nat} {v : Value} (h : QAt nm B w qa H v) : w.frozen? ⟨qa, 0, none⟩ = false := frozen_of_row w qa 0 _ _ h.box
theorem QAt.lt {nm : Nat → ByteArray} {B : Nat} {w : World} {qa : Nat} {H : List Nat} {v : Value} (h : QAt nm B w qa H v) : qa < w.heap.size := (Array.getElem?_eq_some_iff.1 h.box).1
/-- what it looks like -/
theorem QAt.form {nm : Nat → ByteArray} {B : Nat} {w : World} {qa : Nat} {H : List Nat} {v : Value} (h : QAt nm B w qa H v) (h0 : 0 < H.length) :
    ∃ g cap cur, v = .slice (some ⟨g, 0, none⟩) H.length cap ∧ B ≤ g ∧ g ≠ qa ∧ w.heap[g]? = some (.cells cur 58 (0, 0)) ∧ H.length ≤ cap ∧ cap ≤ 9223372036854775807 := by
  rcases h.row.2 with ⟨_, hn⟩ | ⟨g, cap, cur, hv, hb, hg, h1, h2, _⟩
  · omega
  · refine ⟨g, cap, cur, hv, hb, fun e => ?_, hg, h1, by unfold maxLen at h2; exact h2⟩
    subst e
    rw [h.box] at hg
    cases hg
end Go.Proofs.Ytnonncjndlcjgaa
