/- Two orders that are known ahead: of things that need nothing, and of a chain. No walk. -/
import Derived.Test.YtnonncjndlcjgaaLawSorts
namespace Go.Proofs.Ytnonncjndlcjgaa
open Go.RowKit

/-- the answer, where there is an order -/
theorem SortSpec.done {nm : Nat → ByteArray} {n : Nat} {N : List (List Int)} {R L : List Nat} {c : Int} (h : SortSpec nm n N R c) (hn : n = N.length) (hr : rightB N = true) (hd : Pl.Done (ltN nm) (natM N) L) (hl : L.length = n) : R = L ∧ c = 0 :=
  h.unique (Or.inr (Or.inr ⟨hn, hr, L, hd, Or.inr ⟨by omega, rfl, rfl⟩⟩))

theorem SortSpec.order {nm : Nat → ByteArray} {n : Nat} {N : List (List Int)} {R : List Nat} {c : Int} (h : SortSpec nm n N R c) (hn : n = N.length) (hr : rightB N = true) : ∃ L, Pl.Done (ltN nm) (natM N) L ∧ ((L.length < N.length ∧ R = [] ∧ c = 16) ∨ (N.length ≤ L.length ∧ R = L ∧ c = 0)) := by
  rcases h with ⟨h1, _⟩ | ⟨_, h2, _⟩ | ⟨_, _, h3⟩
  · exact absurd hn h1
  · rw [hr] at h2; cases h2
  · exact h3

/-! ### nothing is needed -/
def noNeeds (n : Nat) : List (List Int) := List.replicate n []
theorem noNeeds_right (n : Nat) : rightB (noNeeds n) = true := by simp [rightB, noNeeds]
theorem noNeeds_getD (n j : Nat) : (natM (noNeeds n)).getD j [] = [] := by
  rw [natM_getD]
  unfold noNeeds
  by_cases h : j < n <;> simp [List.getD, h]
theorem noNeeds_szs (n k : Nat) : Pl.szs (natM (noNeeds n)) k = 0 := by
  induction k with
  | zero => rfl
  | succ k ih => simp only [Pl.szs, ih, noNeeds_getD, List.length_nil]

theorem done_all {lt : Nat → Nat → Bool} {M : List (List Nat)} {L : List Nat} (hM : ∀ j, M.getD j [] = []) (h : Pl.Done lt M L) : L.length = M.length := by
  have h1 := Pl.Run.nodup _ L rfl h.1
  have h2 := nodup_le h1.1 h1.2
  have h3 : ∀ j, j < M.length → j ∈ L := fun j hj => by
    by_cases e : j ∈ L
    · exact e
    · exact absurd ⟨hj, e, fun k hk => by rw [hM] at hk; cases hk⟩ (h.2 j)
  have h4 := List.nodup_range (n := M.length) |>.length_le_of_subset (l₂ := L) (fun j hj => h3 j (List.mem_range.1 hj))
  simp at h4
  omega

/-- one behind the other: the second isn't before the first -/
theorem done_next {lt : Nat → Nat → Bool} {M : List (List Nat)} {L : List Nat} (hM : ∀ j, M.getD j [] = []) (h : Pl.Done lt M L) {i : Nat} (hi : i + 1 < L.length) : lt (L.getD (i + 1) 0) (L.getD i 0) = false ∧ L.getD (i + 1) 0 ≠ L.getD i 0 := by
  have h1 := Pl.Run.nodup _ L rfl h.1
  have hnot := (h.1 (i + 1) hi).1.2.1
  have ht := Pl.take_succ_getD L i (by omega)
  rw [ht] at hnot
  simp only [List.mem_append, List.mem_singleton, not_or] at hnot
  refine ⟨(h.1 i (by omega)).2 _ ⟨?_, hnot.1, fun k hk => by rw [hM] at hk; cases hk⟩, hnot.2⟩
  have ej : L.getD (i + 1) 0 = L[i + 1] := by simp [List.getD, List.getElem?_eq_getElem hi]
  rw [ej]; exact h1.2 _ (List.getElem_mem hi)

/-- what the law asks of two that follow each other: its tests, as the walk has them -/
theorem next_tests {nm : Nat → ByteArray} {x p : Nat} (h : ltN nm x p = false) (hne : x ≠ p) :
    (((nm p).toList == (nm x).toList) = false ∧ Op.bytesLess (nm p).toList (nm x).toList = true) ∨ (((nm p).toList == (nm x).toList) = true ∧ p < x) := by
  unfold ltN thB at h
  by_cases e : (nm x).toList = (nm p).toList
  · rw [if_pos e] at h
    refine Or.inr ⟨by simp [e], ?_⟩
    simp at h
    omega
  · rw [if_neg e] at h
    refine Or.inl ⟨by simpa using Ne.symm e, ?_⟩
    rw [less_lists] at h ⊢
    have h1 := List.not_lt.1 (of_decide_eq_false h)
    rcases List.le_iff_lt_or_eq.1 h1 with h2 | h2
    · simp [h2]
    · exact absurd h2.symm e

/-! ### a chain -/
def chainN (n : Nat) : List (List Int) := (List.range n).map fun j => if j + 1 < n then [((j + 1 : Nat) : Int)] else []
@[simp] theorem chainN_length (n : Nat) : (chainN n).length = n := by simp [chainN]
theorem chainN_getD (n j : Nat) (hj : j < n) : (chainN n).getD j [] = if j + 1 < n then [((j + 1 : Nat) : Int)] else [] := by
  simp [chainN, List.getD, hj]
theorem chainN_right (n : Nat) : rightB (chainN n) = true := by
  unfold rightB
  rw [List.all_eq_true]
  intro l hl
  obtain ⟨j, hj, rfl⟩ := List.mem_map.1 hl
  rw [List.mem_range] at hj
  rw [List.all_eq_true]
  intro x hx
  by_cases h : j + 1 < n
  · rw [if_pos h] at hx
    simp at hx
    subst hx
    simp [inR]
    omega
  · rw [if_neg h] at hx; cases hx
theorem chainM_getD (n j : Nat) (hj : j < n) : (natM (chainN n)).getD j [] = if j + 1 < n then [j + 1] else [] := by
  rw [natM_getD, chainN_getD n j hj]
  by_cases h : j + 1 < n <;> simp [h]
theorem chain_szs (n k : Nat) (hk : k ≤ n) : Pl.szs (natM (chainN n)) k ≤ k := by
  induction k with
  | zero => simp [Pl.szs]
  | succ k ih =>
    have := ih (by omega)
    simp only [Pl.szs, chainM_getD n k (by omega)]
    by_cases h : k + 1 < n <;> simp [h] <;> omega

def down (n : Nat) : List Nat := (List.range n).map fun i => n - 1 - i
@[simp] theorem down_length (n : Nat) : (down n).length = n := by simp [down]
theorem down_getD (n i : Nat) (hi : i < n) : (down n).getD i 0 = n - 1 - i := by simp [down, List.getD, hi]
theorem down_take (n i x : Nat) (hi : i ≤ n) : x ∈ (down n).take i ↔ x < n ∧ n - i ≤ x := by
  constructor
  · intro h
    obtain ⟨k, hk, e⟩ := List.getElem_of_mem h
    simp [down] at hk e
    omega
  · rintro ⟨h1, h2⟩
    rw [List.mem_iff_getElem]
    refine ⟨n - 1 - x, by simp; omega, ?_⟩
    simp [down]
    omega
theorem chain_done (nm : Nat → ByteArray) (n : Nat) : Pl.Done (ltN nm) (natM (chainN n)) (down n) := by
  refine ⟨fun i hi => ?_, fun j hj => ?_⟩
  · rw [down_length] at hi
    rw [down_getD n i hi]
    refine ⟨⟨by simp; omega, ?_, ?_⟩, fun y hy => ?_⟩
    · rw [down_take n i _ (by omega)]; omega
    · intro k hk
      rw [chainM_getD n _ (by omega)] at hk
      rw [down_take n i _ (by omega)]
      by_cases h : n - 1 - i + 1 < n
      · rw [if_pos h] at hk; simp at hk; omega
      · rw [if_neg h] at hk; cases hk
    · obtain ⟨y1, y2, y3⟩ := hy
      simp at y1
      rw [down_take n i _ (by omega)] at y2
      by_cases e : y = n - 1 - i
      · subst e; exact (ltN_so nm).irr _
      · have h : y + 1 < n := by omega
        have := y3 (y + 1) (by rw [chainM_getD n y y1, if_pos h]; simp)
        rw [down_take n i _ (by omega)] at this
        omega
  · have h1 := hj.1
    simp at h1
    apply hj.2.1
    have := (down_take n n j (Nat.le_refl _)).2 ⟨h1, by omega⟩
    exact List.mem_of_mem_take this
end Go.Proofs.Ytnonncjndlcjgaa
