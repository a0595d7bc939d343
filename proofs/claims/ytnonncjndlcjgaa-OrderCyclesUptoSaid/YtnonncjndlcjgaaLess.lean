/- The needs, copied, one thing's taken away: append([][]int{}, needs...) and less[x] = nil. -/
import Derived.Test.YtnonncjndlcjgaaLawReach
namespace Go.Proofs.Ytnonncjndlcjgaa
open Go.RowKit
variable {w : World} {N : List (List Int)}

/-- the cells that are appended -/
def rowOf (w : World) (b off n : Nat) : List Value := (List.range n).map fun j => (w.cell? ⟨b, off + j, none⟩).getD (.slice none 0 0)
@[simp] theorem rowOf_length (w : World) (b off n : Nat) : (rowOf w b off n).length = n := by simp [rowOf]
theorem rowOf_at (w : World) (b off n : Nat) {j : Nat} (hj : j < n) : (rowOf w b off n)[j]? = some ((w.cell? ⟨b, off + j, none⟩).getD (.slice none 0 0)) := by
  simp [rowOf, hj]

theorem needs_row {b off n cn : Nat} (h : Needs w (some ⟨b, off, none⟩) n cn N) {j : Nat} (hj : j < n) : b < w.heap.size ∧ ∃ q m c, w.cell? ⟨b, off + j, none⟩ = some (.slice q m c) ∧ Ints w q m c (N.getD j []) := by
  rcases h.2.2.2 with h0 | ⟨b', off', he, hB, hc⟩
  · omega
  · cases he
    exact ⟨hB, hc j hj⟩

theorem rowOf_news {b off n cn : Nat} (h : Needs w (some ⟨b, off, none⟩) n cn N) : (∀ j u, (rowOf w b off n)[j]? = some u → w.cell? ((⟨b, off, none⟩ : Addr).add j) = some u) ∧ ∀ u ∈ rowOf w b off n, u.oneCell' = true := by
  refine ⟨fun j u hu => ?_, fun u hu => ?_⟩
  · have hj : j < n := by
      have := (List.getElem?_eq_some_iff.1 hu).1
      simpa using this
    obtain ⟨_, q, m, c, hc, _⟩ := needs_row h hj
    rw [rowOf_at w b off n hj, hc] at hu
    rw [addr_add, hc]
    simpa using hu
  · obtain ⟨j, hj, e⟩ := List.getElem_of_mem hu
    have hj2 : j < n := by simpa using hj
    obtain ⟨_, q, m, c, hc, _⟩ := needs_row h hj2
    have e2 := rowOf_at w b off n hj2
    rw [List.getElem?_eq_getElem hj, e, hc] at e2
    simp at e2
    rw [e2]
    rfl

theorem getD_set (N : List (List Int)) (x j : Nat) (hj : j < N.length) : (N.set x []).getD j [] = if j = x then [] else N.getD j [] := by
  by_cases e : j = x
  · subst e; simp [List.getD, hj]
  · simp [List.getD, Ne.symm e, e]

/-- what lies there behind both steps -/
theorem less_after {w1 w' : World} {b off n cn : Nat} {v : Value} (h : Needs w1 (some ⟨b, off, none⟩) n cn N) (hown : w'.ownsRow w1.heap.size 26 1 v n (rowOf w1 b off n)) (hg : w1.grownBy w' none) {x : Nat} (hx : x < n) :
    ∃ g cap c0, v = .slice (some ⟨g, 0, none⟩) n cap ∧ n ≤ cap ∧ cap ≤ 9223372036854775807 ∧ w'.cell? ⟨g, x, none⟩ = some c0 ∧ w'.frozen? ⟨g, x, none⟩ = false ∧
      (∀ W : World, Below W.heap.size W w1 → Below W.heap.size W (w'.setCell ⟨g, x, none⟩ (.slice none 0 0))) ∧
      Needs (w'.setCell ⟨g, x, none⟩ (.slice none 0 0)) (some ⟨g, 0, none⟩) n cap (N.set x []) := by
  rcases hown.2 with ⟨_, h0⟩ | ⟨g, cap, cur, rfl, hgb, hh, h1, h2, h3, h4⟩
  · omega
  · simp only [Nat.mul_one] at h3 h4
    have hrow : w'.rowIs g 26 cap (fun j => cur.getD j (.slice none 0 0)) := ⟨cur, hh, h3, fun i hi => by simp [Array.getD, h3, hi]⟩
    have hcell : ∀ j, j < n → ∃ q m c, cur.getD j (.slice none 0 0) = .slice q m c ∧ Ints w1 q m c (N.getD j []) := fun j hj => by
      obtain ⟨_, q, m, c, hc, hi⟩ := needs_row h hj
      refine ⟨q, m, c, ?_, hi⟩
      have e := rowOf_at w1 b off n hj
      rw [hc, ← h4, List.getElem?_take, if_pos hj] at e
      have e2 : cur[j]? = some (.slice q m c) := by simpa using e
      have hj2 : j < cur.size := by omega
      rw [Array.getElem?_eq_getElem hj2] at e2
      simp at e2
      simp [Array.getD, hj2, e2]
    have hbel : ∀ W : World, Below W.heap.size W w1 → Below W.heap.size W (w'.setCell ⟨g, x, none⟩ (.slice none 0 0)) := fun W hb =>
      (hb.grown hg hb.size (fun k e => by cases e)).setCell (Nat.le_trans hb.size hgb) _
    refine ⟨g, cap, _, rfl, h1, by unfold maxLen at h2; exact h2, hrow.cell (by omega), hrow.frozen x, hbel, by rw [List.length_set]; exact h.1, h1, by unfold maxLen at h2; exact h2, Or.inr ⟨g, 0, rfl, ?_, fun j hj => ?_⟩⟩
    · exact (hrow.set x _).lt
    · have hjN : j < N.length := by rw [← h.1]; exact hj
      rw [Nat.zero_add, (hrow.set x (.slice none 0 0)).cell (by omega), getD_set N x j hjN]
      by_cases e : j = x
      · rw [if_pos e, if_pos e]
        exact ⟨_, _, _, rfl, ints_nil⟩
      · rw [if_neg e, if_neg e]
        obtain ⟨q, m, c, h5, h6⟩ := hcell j hj
        exact ⟨q, m, c, by rw [h5], h6.below (hbel w1 (Below.refl _ _))⟩

theorem natM_set (N : List (List Int)) (x : Nat) : natM (N.set x []) = (natM N).set x [] := by simp [natM, List.map_set]
theorem right_set {x : Nat} (hr : rightB N = true) : rightB (N.set x []) = true := by
  rw [rightB_iff] at hr ⊢
  intro j hj i hi
  rw [List.length_set] at hj ⊢
  rw [getD_set N x j hj] at hi ⊢
  by_cases e : j = x
  · rw [if_pos e] at hi
    simp at hi
  · rw [if_neg e] at hi ⊢
    exact hr j hj i hi
theorem szs_set (M : List (List Nat)) (x : Nat) : ∀ k, Pl.szs (M.set x []) k ≤ Pl.szs M k := by
  intro k
  induction k with
  | zero => simp [Pl.szs]
  | succ k ih =>
    have e : ((M.set x []).getD k []).length ≤ (M.getD k []).length := by
      by_cases h : k = x
      · subst h
        by_cases h2 : k < M.length
        · simp [List.getD, h2]
        · simp [List.getD, h2]
      · simp [List.getD, Ne.symm h]
    simp only [Pl.szs]
    omega
end Go.Proofs.Ytnonncjndlcjgaa
