/- The arguments as they come in: a slice of strings, a slice of slices of int; how much they hold. -/
import Derived.Test.YtnonncjndlcjgaaLawSorts
import Derived.WalkKit
import Derived.ProofKit
import Derived.OpenShut
import Derived.SizedLaws
import Derived.JoinedCond
import Derived.Deep.Matrix
import Derived.Deep.Strs
namespace Go.Proofs.Ytnonncjndlcjgaa
open Go.ChangeShapes Go.WideShapes Go.ChangeAt Go.RowKit Go.Deep

theorem own : ownKnob Try.prog.godebug = none := by kernel_rfl
theorem laidOut : laidOutB Try.prog = true := by kernel_rfl

theorem strs_of_open {H : Type} {enc : TypeId × Value → H} {W : World} {spare : Nat → Bool} {held : Bool} {a : Option Addr} {len cap : Nat} {d : DataW H} {ps : List MemPlace} {base : Nat}
    (h : DataW.Trod enc Try.prog W base spare held 22 (.slice a len cap) d ps) : ∃ ss : List ByteArray, Strs W a len cap ss := by
  obtain ⟨fuel, hf⟩ := h
  rcases open_strs Try.underlying22 Try.underlying9 (by kernel_rfl) hf with ⟨hcs, _⟩ | ⟨x, l, c, m, Sx, hcs, _, hl, hm, hmm, _, hcell⟩
  · simp [Value.cells] at hcs
    obtain ⟨rfl, rfl, rfl⟩ := hcs
    exact ⟨[], rfl, Nat.le_refl _, by omega, Or.inl rfl⟩
  · simp [Value.cells] at hcs
    obtain ⟨rfl, rfl, rfl⟩ := hcs
    unfold maxLen at hm
    have hlm : len ≤ m := by rw [hmm]; split <;> omega
    refine ⟨(List.range len).map Sx, by simp, hl, hm, ?_⟩
    by_cases h0 : len = 0
    · exact Or.inl h0
    · obtain ⟨b, off, spot⟩ := x
      have hc0 := (hcell 0 (by omega)).1
      have hspot : spot = none := by simpa [Addr.add] using World.cell?_spot hc0
      subst hspot
      refine Or.inr ⟨b, off, rfl, ?_, fun j hj => ?_⟩
      · have := World.block_lt_of_cell? W _ hc0
        simpa [Addr.add] using this
      · have hc := (hcell j (by omega)).1
        rw [addr_add] at hc
        rw [hc]
        simp [List.getD, hj]

/-! ### how much a reading holds -/
theorem bulk_one {H : Type} (d : DataW H) : 1 ≤ Rows.uptoBulk d := by
  cases d with
  | lit l => cases l <;> simp [Rows.uptoBulk]
  | nil => simp [Rows.uptoBulk]
  | ptr d => simp [Rows.uptoBulk]
  | slice elems spare => simp [Rows.uptoBulk]
  | agg parts => simp [Rows.uptoBulk]
  | iface t d => simp [Rows.uptoBulk]
  | map entries => simp [Rows.uptoBulk]
  | held h => simp [Rows.uptoBulk]
theorem bulk_append {H : Type} (l r : List (DataW H)) : Rows.uptoBulkAll (l ++ r) = Rows.uptoBulkAll l + Rows.uptoBulkAll r := by
  induction l with
  | nil => simp [Rows.uptoBulkAll]
  | cons x l ih => simp only [List.cons_append, Rows.uptoBulkAll, ih]; omega
theorem bulk_length {H : Type} (l : List (DataW H)) : l.length ≤ Rows.uptoBulkAll l := by
  induction l with
  | nil => simp
  | cons x r ih => have := bulk_one x; simp only [Rows.uptoBulkAll, List.length_cons]; omega

theorem bulk_row {H : Type} {A : Option Addr} {L : Nat} {zs : List Int} (hL : L ≤ zs.length) (hA : A = none → zs.length = 0) : L + 1 ≤ Rows.uptoBulk (intRow (H := H) .i64 A L zs) := by
  cases A with
  | none => have := hA rfl; simp [intRow, Rows.uptoBulk]; omega
  | some a =>
    simp only [intRow, Rows.uptoBulk]
    have h := bulk_length (lits (H := H) .i64 (zs.take L))
    have e : (lits (H := H) .i64 (zs.take L)).length = L := by simp [lits]; omega
    omega

theorem bulk_rows {H : Type} (f : Nat → DataW H) (N : List (List Int)) : ∀ n, (∀ r, r < n → (N.getD r []).length + 1 ≤ Rows.uptoBulk (f r)) → n + Pl.szs (natM N) n ≤ Rows.uptoBulkAll ((List.range n).map f) := by
  intro n
  induction n with
  | zero => intro _; simp [Pl.szs]
  | succ n ih =>
    intro h
    have h1 := ih (fun r hr => h r (by omega))
    have h2 := h n (by omega)
    have e : ((natM N).getD n []).length = (N.getD n []).length := by rw [natM_getD, List.length_map]
    rw [List.range_succ, List.map_append, bulk_append]
    simp only [List.map_cons, List.map_nil, Rows.uptoBulkAll, Pl.szs, e]
    omega

theorem weights_in {H : Type} {P : Program} {t : TypeId} {x : DataW H} {k : Nat} : ∀ {l : List (DataW H)}, x ∈ l → k ∈ x.weights P t → k ∈ DataW.weightsAll P t l := by
  intro l
  induction l with
  | nil => intro h; cases h
  | cons y l ih =>
    intro h hk
    simp only [DataW.weightsAll, List.mem_append]
    rcases List.mem_cons.1 h with rfl | h
    · exact Or.inl hk
    · exact Or.inr (ih h hk)

theorem bytes3 : Try.prog.bytesOf 3 = 8 := by kernel_rfl
theorem weight_row {H : Type} {a : Addr} {L : Nat} {zs : List Int} (elems rest : List (DataW H)) (h : intRow .i64 (some a) L zs ∈ elems) : (zs.take L).length * 8 + (zs.drop L).length * 8 ∈ (DataW.slice elems rest).weights Try.prog 23 := by
  have h1 : (zs.take L).length * 8 + (zs.drop L).length * 8 ∈ (intRow (H := H) .i64 (some a) L zs).weights Try.prog 26 := by
    simp only [intRow, DataW.weights, Try.underlying26, lits, List.length_map, bytes3]
    rw [Nat.add_mul]
    exact List.mem_cons_self ..
  simp only [DataW.weights, Try.underlying23]
  exact List.mem_cons_of_mem _ (List.mem_append_left _ (weights_in h h1))

theorem needs_of_open {H : Type} {enc : TypeId × Value → H} {W : World} {held : Bool} {a : Option Addr} {len cap : Nat} {d : DataW H} {ps : List MemPlace} {base : Nat}
    (h : DataW.Trod enc Try.prog W base (fun _ => true) held 23 (.slice a len cap) d ps) :
    ∃ N : List (List Int), Needs W a len cap N ∧ N.length + Pl.szs (natM N) N.length ≤ Rows.uptoBulk d ∧ ((∀ k ∈ d.weights Try.prog 23, k ≤ reachBytes) → ∀ j, (N.getD j []).length ≤ 17592186044416) := by
  obtain ⟨fuel, hf⟩ := h
  rcases open_int_rows Try.underlying23 Try.underlying26 Try.underlying3 (by kernel_rfl) (by kernel_rfl) hf with ⟨hcs, hx⟩ | ⟨x, l, c, A, L, C, Z, hcs, _, hl, hm, hx, hrows⟩
  · simp [Value.cells] at hcs
    obtain ⟨rfl, rfl, rfl⟩ := hcs
    exact ⟨[], ⟨rfl, Nat.le_refl _, by omega, Or.inl rfl⟩, by simp [Pl.szs], fun _ j => by simp [List.getD]⟩
  · simp [Value.cells] at hcs
    obtain ⟨rfl, rfl, rfl⟩ := hcs
    unfold maxLen at hm hrows
    simp only [Prod.mk.injEq] at hx
    obtain ⟨rfl, _⟩ := hx
    have hgetD : ∀ j, j < len → ((List.range len).map fun r => (Z r).take (L r)).getD j [] = (Z j).take (L j) := fun j hj => by simp [List.getD, hj]
    have hlen : ∀ j, j < len → ((Z j).take (L j)).length = L j := fun j hj => by
      obtain ⟨_, h2, _, h4, _⟩ := hrows j (by omega)
      simp; omega
    have hneeds : Needs W (some x) len cap ((List.range len).map fun r => (Z r).take (L r)) := by
      refine ⟨by simp, hl, hm, ?_⟩
      by_cases h0 : len = 0
      · exact Or.inl h0
      · obtain ⟨b, off, spot⟩ := x
        have hc0 := (hrows 0 (by omega)).1
        have hspot : spot = none := by simpa [Addr.add] using World.cell?_spot hc0
        subst hspot
        refine Or.inr ⟨b, off, rfl, ?_, fun j hj => ?_⟩
        · have := World.block_lt_of_cell? W _ hc0
          simpa [Addr.add] using this
        · obtain ⟨h1, h2, h3, h4, h5, h6, h7⟩ := hrows j (by omega)
          rw [addr_add] at h1
          refine ⟨A j, L j, C j, h1, ?_⟩
          rw [hgetD j hj]
          refine ⟨(hlen j hj).symm, h2, h3, ?_⟩
          by_cases hL0 : L j = 0
          · exact Or.inl hL0
          · right
            cases hA : A j with
            | none => have := h6 hA; omega
            | some a' =>
              obtain ⟨_, h8⟩ := h7 a' hA
              obtain ⟨b', off', spot'⟩ := a'
              have hc1 := h8 0 (by omega)
              have hs' : spot' = none := by simpa [Addr.add] using World.cell?_spot hc1
              subst hs'
              refine ⟨b', off', rfl, ?_, fun t ht => ?_⟩
              · have := World.block_lt_of_cell? W _ hc1
                simpa [Addr.add] using this
              · have hc2 := h8 t (by omega)
                rw [addr_add] at hc2
                rw [hc2]
                simp [List.getD, ht]
    refine ⟨_, hneeds, ?_, fun hw j => ?_⟩
    · have h := bulk_rows (H := H) (fun r => intRow .i64 (A r) (L r) (Z r)) ((List.range len).map fun r => (Z r).take (L r)) len (fun r hr => by
        rw [hgetD r hr, hlen r hr]
        obtain ⟨_, h2, _, h4, _, h6, _⟩ := hrows r (by omega)
        exact bulk_row (by omega) (fun h => by have := h6 h; omega))
      simp only [Rows.uptoBulk]
      simp only [List.length_map, List.length_range]
      omega
    · by_cases hj : j < len
      · rw [hgetD j hj, hlen j hj]
        obtain ⟨_, h2, _, h4, _, h6, _⟩ := hrows j (by omega)
        cases hA : A j with
        | none => have := h6 hA; omega
        | some a' =>
          have h := hw _ (weight_row (a := a') (L := L j) (zs := Z j) _ _ (List.mem_map.2 ⟨j, List.mem_range.2 hj, by rw [hA]⟩))
          have hr : reachBytes = 140737488351232 := rfl
          rw [hlen j hj] at h
          omega
      · simp [List.getD, hj]
end Go.Proofs.Ytnonncjndlcjgaa
