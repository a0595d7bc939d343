/- lay's own memory: what each things lacks, who needs it, the queue; what each step does to it. No walk. -/
import Derived.Test.YtnonncjndlcjgaaPop
import Derived.Test.YtnonncjndlcjgaaPlLay
import Derived.Deep.OwnRows
namespace Go.Proofs.Ytnonncjndlcjgaa
open Go.RowKit
variable {nm : Nat → ByteArray} {w0 w : World} {lb ub qa B1 n : Nat} {f : Nat → Nat} {U : Nat → List Nat} {H : List Nat}

theorem Fr.rowIs {T : Nat → Obj → Prop} {w w' : World} {b : Nat} {e : TypeId} {n : Nat} {f : Nat → Value} (hf : Fr T w w') (h : w.rowIs b e n f) (hT : ∀ o, elemT o = some e → ¬ T b o) : w'.rowIs b e n f := by
  obtain ⟨c, hb, r⟩ := h
  exact ⟨c, hf.keep b _ hb (hT _ rfl), r⟩

theorem QAt.keep {B : Nat} {v : Value} {T : Nat → Obj → Prop} {w' : World} (h : QAt nm B w qa H v) (hf : Fr T w w') (hT : ∀ k o, (elemT o = some 55 ∨ elemT o = some 58) → ¬ T k o) : QAt nm B w' qa H v :=
  ⟨h.old, hf.keep qa _ h.box (hT _ _ (Or.inl rfl)), hf.row h.row (fun k o _ ho => hT k o (Or.inr ho))⟩

def intsV (l : List Nat) : List Value := l.map fun j => .int .i64 (j : Nat)
@[simp] theorem intsV_length (l : List Nat) : (intsV l).length = l.length := by simp [intsV]
theorem intsV_append (l k : List Nat) : intsV (l ++ k) = intsV l ++ intsV k := by simp [intsV]
theorem intsV_at (l : List Nat) (j : Nat) (hj : j < l.length) : (intsV l)[j]? = some (.int .i64 (l.getD j 0 : Nat)) := by
  simp [intsV, List.getD, List.getElem?_eq_getElem hj]

/-- the slices of those that need each thing -/
structure Users (w : World) (ub B1 n : Nat) (U : Nat → List Nat) (vs : Nat → Value) : Prop where
  row : w.rowIs ub 26 n vs
  own : ∀ k, k < n → w.ownsRow B1 3 1 (vs k) (U k).length (intsV (U k))
  apart : ∀ k k', k < n → k' < n → k ≠ k' → (vs k).ownBlock = none ∨ (vs k).ownBlock ≠ (vs k').ownBlock

structure LaySt (nm : Nat → ByteArray) (w0 : World) (lb ub qa B1 n : Nat) (w : World) (f : Nat → Nat) (U : Nat → List Nat) (H : List Nat) : Prop where
  below : Below w0.heap.size w0 w
  lacks : w.rowIs lb 3 n (fun j => .int .i64 (f j : Nat))
  users : ∃ vs, Users w ub B1 n U vs
  queue : ∃ v, QAt nm w0.heap.size w qa H v
  lbB : w0.heap.size ≤ lb ∧ lb < B1
  ubB : w0.heap.size ≤ ub ∧ ub < B1
  B1w : B1 ≤ w.heap.size

theorem LaySt.ne (h : LaySt nm w0 lb ub qa B1 n w f U H) : lb ≠ ub := by
  intro e
  obtain ⟨vs, hu⟩ := h.users
  obtain ⟨c, hc, _⟩ := h.lacks
  obtain ⟨d, hd, _⟩ := hu.row
  rw [e, hd] at hc
  cases hc

/-- lacks[i] = m -/
theorem LaySt.setLacks (h : LaySt nm w0 lb ub qa B1 n w f U H) (i m : Nat) : LaySt nm w0 lb ub qa B1 n (w.setCell ⟨lb, i, none⟩ (.int .i64 (m : Nat))) (fun j => if j = i then m else f j) U H := by
  obtain ⟨vs, hu⟩ := h.users
  obtain ⟨v, hq⟩ := h.queue
  have hf : Fr (fun k o => k = lb ∧ elemT o = some 3) w (w.setCell ⟨lb, i, none⟩ (.int .i64 (m : Nat))) := (Fr.refl w).setCell _ _ (fun o ho => by
    obtain ⟨c, hc, _⟩ := h.lacks
    rw [hc] at ho; cases ho; exact ⟨rfl, rfl⟩)
  refine ⟨h.below.setCell h.lbB.1 _, (h.lacks.set i _).congr fun j _ => ?_, ⟨vs, hu.row.setOther (Ne.symm h.ne) _, fun k hk => ?_, hu.apart⟩, ⟨v, hq.keep hf ?_⟩, h.lbB, h.ubB, by simpa [World.setCell] using h.B1w⟩
  · by_cases e : j = i <;> simp [e]
  · exact ownsRow_setCell_below (hu.own k hk) h.lbB.2 _
  · rintro k o ho ⟨_, h2⟩
    rcases ho with ho | ho <;> rw [h2] at ho <;> cases ho

/-- the queue's turn -/
theorem LaySt.queued (h : LaySt nm w0 lb ub qa B1 n w f U H) {w' : World} {H' : List Nat} (hf : Fr (QT w0.heap.size) w w') (hq : ∃ v, QAt nm w0.heap.size w' qa H' v) : LaySt nm w0 lb ub qa B1 n w' f U H' := by
  obtain ⟨vs, hu⟩ := h.users
  have hT : ∀ (k : Nat) (o : Obj) (e : TypeId), e ≠ 55 → e ≠ 58 → elemT o = some e → ¬ QT w0.heap.size k o := by
    rintro k o e h1 h2 ho ⟨_, h3 | h3⟩
    · rw [ho] at h3; cases h3; exact h1 rfl
    · rw [ho] at h3; cases h3; exact h2 rfl
  exact ⟨h.below.trans (hf.below h.below.size (fun k o hk hT => by have := hT.1; omega)), hf.rowIs h.lacks (fun o ho => hT _ o 3 (by decide) (by decide) ho),
    ⟨vs, hf.rowIs hu.row (fun o ho => hT _ o 26 (by decide) (by decide) ho), fun k hk => hf.row (hu.own k hk) (fun b o _ ho => hT b o 3 (by decide) (by decide) ho), hu.apart⟩, hq, h.lbB, h.ubB, Nat.le_trans h.B1w hf.size⟩

/-- users[k] = append(users[k], i) -/
theorem LaySt.added (h : LaySt nm w0 lb ub qa B1 n w f U H) {vs : Nat → Value} (hu : Users w ub B1 n U vs) {k i : Nat} (hk : k < n) {o : Obj} {g cap : Nat} {w1 : World}
    (hown : w1.ownsRow B1 3 1 (.slice (some ⟨g, 0, none⟩) ((U k).length + 1) cap) ((U k).length + 1) (intsV (U k) ++ [.int .i64 (i : Nat)]))
    (hgrow : (w.alloc o).grownBy w1 (vs k).ownBlock) (hat : (vs k).ownBlock = some g ∨ g = w.heap.size + 1) :
    LaySt nm w0 lb ub qa B1 n (w1.setCell ⟨ub, k, none⟩ (.slice (some ⟨g, 0, none⟩) ((U k).length + 1) cap)) f (fun j => if j = k then U k ++ [i] else U j) H := by
  obtain ⟨v, hq⟩ := h.queue
  have hB1 := h.B1w
  have hlb := h.lbB
  have hub := h.ubB
  have hblk : ∀ b, b < B1 → w1.heap[b]? = w.heap[b]? := fun b hb => by
    rw [hgrow.block b (by simp; omega) (fun e => by have := (hu.own k hk).lt b e.symm; omega), Below.heap_alloc w _ _ (by omega)]
  have hsz : w.heap.size + 1 ≤ w1.heap.size := by have := hgrow.size; simpa using this
  have f1 : Fr (fun b o => B1 ≤ b ∧ elemT o = some 3) w w1 := ((Fr.refl w).alloc o).grown hgrow (fun b o' hb ho => by
    have hlt := (hu.own k hk).lt b hb
    refine ⟨hlt.1, ?_⟩
    rcases (hu.own k hk).2 with ⟨e, _⟩ | ⟨g', cap', cur, e, _, hg, _⟩
    · rw [e] at hb; cases hb
    · rw [e] at hb
      cases hb
      rw [Below.heap_alloc w _ _ hlt.2, hg] at ho
      cases ho; rfl)
  have hrow1 : w1.rowIs ub 26 n vs := hu.row.of_block (hblk ub hub.2)
  have f2 : Fr (fun b o => (B1 ≤ b ∧ elemT o = some 3) ∨ (b = ub ∧ elemT o = some 26)) w (w1.setCell ⟨ub, k, none⟩ (.slice (some ⟨g, 0, none⟩) ((U k).length + 1) cap)) :=
    (f1.mono (fun _ _ => Or.inl)).setCell _ _ (fun o' ho => by
      obtain ⟨c, hc, _⟩ := hrow1
      rw [hc] at ho; cases ho; exact Or.inr ⟨rfl, rfl⟩)
  refine ⟨h.below.trans (f2.below h.below.size ?_), ?_, ⟨fun j => if j = k then .slice (some ⟨g, 0, none⟩) ((U k).length + 1) cap else vs j, (hrow1.set k _), fun j hj => ?_, fun a b ha hb hab => ?_⟩, ⟨v, hq.keep f2 ?_⟩, hlb, hub, ?_⟩
  · rintro b o' hb (⟨h1, _⟩ | ⟨h1, _⟩) <;> omega
  · exact (h.lacks.of_block (hblk lb hlb.2)).setOther h.ne _
  · by_cases e : j = k
    · subst e
      simp only [if_true]
      have hx : intsV (U j ++ [i]) = intsV (U j) ++ [.int .i64 (i : Nat)] := by simp [intsV]
      rw [hx, List.length_append]
      exact ownsRow_setCell_below hown hub.2 _
    · simp only [if_neg e]
      exact ownsRow_setCell_below (((hu.own j hj).alloc o).kept hgrow (hu.apart j k hj hk e)) hub.2 _
  · have hold : ∀ j, j < n → ∀ b, (vs j).ownBlock = some b → b < w.heap.size := fun j hj b e => ((hu.own j hj).lt b e).2
    by_cases e : a = k
    · subst e
      simp only [if_true, if_neg (Ne.symm hab)]
      right
      rcases hat with hat | hat
      · rcases hu.apart a b ha hb hab with h1 | h1
        · rw [hat] at h1; cases h1
        · show some g ≠ _; rw [← hat]; exact h1
      · intro e2
        have := hold b hb g e2.symm
        omega
    · simp only [if_neg e]
      by_cases e' : b = k
      · subst e'
        simp only [if_true]
        rcases hu.apart a b ha hb hab with h1 | h1
        · exact Or.inl h1
        · rcases hat with hat | hat
          · right; show _ ≠ some g; rw [← hat]; exact h1
          · right
            intro e2
            have := hold a ha g e2
            omega
      · simp only [if_neg e']
        exact hu.apart a b ha hb hab
  · rintro b o' ho (⟨_, h2⟩ | ⟨_, h2⟩) <;> rcases ho with ho | ho <;> rw [h2] at ho <;> cases ho
  · show B1 ≤ (w1.setCell _ _).heap.size
    simp [World.setCell]
    omega
end Go.Proofs.Ytnonncjndlcjgaa
