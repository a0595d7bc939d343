/- A slice of int that the call made, cut at its head and grown at its end. -/
import Derived.Test.YtnonncjndlcjgaaSet
import Derived.ArgAppend
import Derived.Deep.AppendLies
namespace Go.Proofs.Ytnonncjndlcjgaa
open Go.RowKit
variable {w : World}

def AheadAt (w : World) (B : Nat) (v : Value) (A : List Nat) : Prop :=
  ∃ (ao : Addr) (cap : Nat), v = .slice (some ao) A.length cap ∧ ((A.length = 0 ∧ cap = 0) ∨ ∃ g off cur, ao = ⟨g, off, none⟩ ∧ B ≤ g ∧ w.heap[g]? = some (.cells cur 3 (0, 0)) ∧ A.length ≤ cap ∧ cap ≤ maxLen ∧ off + cap ≤ cur.size ∧ ∀ j, j < A.length → cur[off + j]? = some (.int .i64 (A.getD j 0 : Nat)))

theorem AheadAt.start (w : World) (x : Nat) : AheadAt (w.alloc (.cells #[.int .i64 (x : Nat)] 3)) w.heap.size (.slice (some ⟨w.heap.size, 0, none⟩) 1 1) [x] :=
  ⟨_, 1, rfl, Or.inr ⟨w.heap.size, 0, _, rfl, Nat.le_refl _, heap_alloc_new w _, by simp, by unfold maxLen; omega, by simp, fun j hj => by
    have : j = 0 := by simpa using hj
    subst this; rfl⟩⟩

theorem AheadAt.kept {B : Nat} {v : Value} {A : List Nat} {w' : World} {row : Option Nat} (h : AheadAt w B v A) (hg : w.grownBy w' row) (hne : ∀ b cur, row = some b → w.heap[b]? ≠ some (.cells cur 3 (0, 0))) : AheadAt w' B v A := by
  obtain ⟨ao, cap, hv, h1 | ⟨g, off, cur, ha, hB, hh, r⟩⟩ := h
  · exact ⟨ao, cap, hv, Or.inl h1⟩
  · refine ⟨ao, cap, hv, Or.inr ⟨g, off, cur, ha, hB, ?_, r⟩⟩
    rw [hg.block g (Array.getElem?_eq_some_iff.1 hh).1 (fun e => hne g cur e.symm hh)]
    exact hh
theorem AheadAt.alloc {B : Nat} {v : Value} {A : List Nat} (h : AheadAt w B v A) (o : Obj) : AheadAt (w.alloc o) B v A :=
  h.kept (World.grownBy_alloc w o none) (fun b cur e => by cases e)

/-- its head, and what is left of it -/
theorem AheadAt.pop {B x : Nat} {v : Value} {A : List Nat} (h : AheadAt w B v (x :: A)) :
    ∃ g off cap, v = .slice (some ⟨g, off, none⟩) (A.length + 1) cap ∧ w.cell? ⟨g, off, none⟩ = some (.int .i64 (x : Nat)) ∧ A.length + 1 ≤ cap ∧ cap ≤ 9223372036854775807 ∧
      (cap = 1 → A = [] ∧ AheadAt w B (.slice (some ⟨g, off, none⟩) 0 0) A) ∧ (cap ≠ 1 → AheadAt w B (.slice (some ⟨g, off + 1, none⟩) A.length (cap - 1)) A) := by
  obtain ⟨ao, cap, hv, h1 | ⟨g, off, cur, rfl, hB, hh, hl, hm, hs, hc⟩⟩ := h
  · simp at h1
  · simp only [List.length_cons] at hv hl hc
    refine ⟨g, off, cap, hv, ?_, hl, by unfold maxLen at hm; exact hm, fun e => ?_, fun e => ?_⟩
    · have := hc 0 (by omega)
      rw [cell_of_row w g off _ _ _ hh]
      simpa using this
    · have hA : A = [] := List.eq_nil_of_length_eq_zero (by omega)
      subst hA
      exact ⟨rfl, _, 0, rfl, Or.inl ⟨rfl, rfl⟩⟩
    · refine ⟨_, cap - 1, rfl, Or.inr ⟨g, off + 1, cur, rfl, hB, hh, by omega, by omega, by omega, fun j hj => ?_⟩⟩
      have := hc (j + 1) (by omega)
      rw [show off + 1 + j = off + (j + 1) by omega]
      rw [this]
      simp [List.getD]

theorem AheadAt.empty {B : Nat} {v : Value} (h : AheadAt w B v []) : ∃ ao cap, v = .slice (some ao) 0 cap := by
  obtain ⟨ao, cap, hv, _⟩ := h
  exact ⟨ao, cap, hv⟩

/-- append(ahead, k) -/
theorem AheadAt.push {B k : Nat} {v : Value} {A : List Nat} (h : AheadAt w B v A) (hl : A.length ≤ 1000000) (hB : B ≤ w.heap.size) (ty : TypeId) :
    ∃ v' w', (Builtin.append_ #[26, 26] ty #[v, .slice (some ⟨w.heap.size, 0, none⟩) 1 1]).run Try.prog (w.alloc (.cells #[.int .i64 (k : Nat)] 3)) = .ok v' w' ∧ AheadAt w' B v' (A ++ [k]) ∧
      ∃ row, (w.alloc (.cells #[.int .i64 (k : Nat)] 3)).grownBy w' row ∧ ∀ b, row = some b → B ≤ b ∧ ∃ cur, w.heap[b]? = some (.cells cur 3 (0, 0)) := by
  obtain ⟨i3, hi, hz0, hz1, hz2⟩ := info_parts (P := Try.prog) (e := 3) (z := .int .i64 0) (size := 1) (bytes := 8) (by kernel_rfl)
  have hnews : ∀ j u, ([.int .i64 (k : Nat)] : List Value)[j]? = some u → (w.alloc (.cells #[.int .i64 (k : Nat)] 3)).cell? ((⟨w.heap.size, 0, none⟩ : Addr).add j) = some u :=
    World.news_of_block (cs := #[.int .i64 (k : Nat)]) (t := 3) (fr := (0, 0)) (heap_alloc_new w _)
  have grow : ∀ (ao : Addr) (cap : Nat), v = .slice (some ao) A.length cap → cap < A.length + 1 → (∀ j u, (intsV A)[j]? = some u → (w.alloc (.cells #[.int .i64 (k : Nat)] 3)).cell? (ao.add j) = some u) →
      ∃ v' w', (Builtin.append_ #[26, 26] ty #[v, .slice (some ⟨w.heap.size, 0, none⟩) 1 1]).run Try.prog (w.alloc (.cells #[.int .i64 (k : Nat)] 3)) = .ok v' w' ∧ AheadAt w' B v' (A ++ [k]) ∧
      ∃ row, (w.alloc (.cells #[.int .i64 (k : Nat)] 3)).grownBy w' row ∧ ∀ b, row = some b → B ≤ b ∧ ∃ cur, w.heap[b]? = some (.cells cur 3 (0, 0)) := by
    intro ao cap hv hfull hold
    subst hv
    obtain ⟨v', w', hrun, hown, hg⟩ := run_append_arg_grows (P := Try.prog) (w.alloc (.cells #[.int .i64 (k : Nat)] 3)) 26 ty 3 i3 (.int .i64 0) 1 8 Try.underlying26 hi hz0 hz1 hz2 rfl (by decide) ao A.length cap (intsV A) (by simp) hold ⟨w.heap.size, 0, none⟩ 1 1 [.int .i64 (k : Nat)] rfl hnews hfull (by unfold maxLen; omega) (by omega)
    refine ⟨v', w', hrun, ?_, none, hg, fun b e => by cases e⟩
    rcases hown.2 with ⟨_, h0⟩ | ⟨g, c, cur, hv', hbg, hh, h1, h2, h3, h4⟩
    · omega
    · have hsz : (w.alloc (.cells #[.int .i64 (k : Nat)] 3)).heap.size = w.heap.size + 1 := by simp
      refine ⟨_, c, by rw [hv', List.length_append]; rfl, Or.inr ⟨g, 0, cur, rfl, by omega, hh, by rw [List.length_append]; exact h1, h2, by omega, fun j hj => ?_⟩⟩
      have e1 : intsV (A ++ [k]) = intsV A ++ [.int .i64 (k : Nat)] := by simp [intsV]
      have e2 := intsV_at (A ++ [k]) j hj
      rw [e1, ← h4, List.getElem?_take] at e2
      simp only [List.length_append, List.length_singleton] at hj
      rw [if_pos (by omega)] at e2
      rw [Nat.zero_add]
      simpa using e2
  obtain ⟨ao, cap, hv, ⟨h0, hcap⟩ | ⟨g, off, cur, rfl, hBg, hh, hlc, hm, hs, hc⟩⟩ := h
  · refine grow ao cap hv (by omega) (fun j u hu => ?_)
    have hA : A = [] := List.eq_nil_of_length_eq_zero h0
    subst hA
    simp [intsV] at hu
  · have hgl := (Array.getElem?_eq_some_iff.1 hh).1
    have hh1 : (w.alloc (.cells #[.int .i64 (k : Nat)] 3)).heap[g]? = some (.cells cur 3 (0, 0)) := by rw [Below.heap_alloc w _ _ hgl]; exact hh
    by_cases hroom : A.length + 1 ≤ cap
    · subst hv
      have hlt : off + A.length < cur.size := by omega
      have hcell : ∀ j, j < 1 → ((w.alloc (.cells #[.int .i64 (k : Nat)] 3)).cell? ⟨g, off + A.length * i3.size + j, none⟩).isSome = true := fun j hj => by
        have : j = 0 := by omega
        subst this
        rw [hz1, Nat.mul_one, Nat.add_zero, cell_of_row _ g _ _ _ _ hh1]
        simp [hlt]
      have hrun := run_append_room_cells (P := Try.prog) (w.alloc (.cells #[.int .i64 (k : Nat)] 3)) 26 ty 3 i3 Try.underlying26 hi g off A.length cap ⟨w.heap.size, 0, none⟩ 1 1 [.int .i64 (k : Nat)] (by rw [hz1]; rfl) hnews (by intro u hu; simp at hu; subst hu; rfl) hroom hcell (fun j _ => frozen_of_row _ g _ _ _ hh1)
      rw [hz1, Nat.mul_one] at hrun
      have hset : (w.alloc (.cells #[.int .i64 (k : Nat)] 3)).setCells g (off + A.length) [.int .i64 (k : Nat)] = (w.alloc (.cells #[.int .i64 (k : Nat)] 3)).setCell ⟨g, off + A.length, none⟩ (.int .i64 (k : Nat)) := by simp [World.setCells]
      rw [hset] at hrun
      refine ⟨_, _, hrun, ⟨_, cap, by rw [List.length_append]; rfl, Or.inr ⟨g, off, _, rfl, hBg, heap_setCell_same _ g (off + A.length) _ _ _ hh1, by rw [List.length_append]; exact hroom, hm, by simpa using hs, fun j hj => ?_⟩⟩,
        some g, ⟨rfl, rfl, rfl, by simp [World.setCell], fun b _ hb => heap_setCell_other _ _ b _ (fun e => hb (by rw [e]))⟩, fun b e => by cases e; exact ⟨hBg, cur, hh⟩⟩
      simp only [List.length_append, List.length_singleton] at hj
      rw [Array.getElem?_setIfInBounds]
      by_cases e : j = A.length
      · subst e
        rw [if_pos rfl, if_pos hlt]
        simp [List.getD]
      · rw [if_neg (by omega), hc j (by omega)]
        have h2 : j < A.length := by omega
        simp [List.getD, List.getElem?_append_left h2]
    · refine grow ⟨g, off, none⟩ cap hv (by omega) (fun j u hu => ?_)
      have hj : j < A.length := by
        have := (List.getElem?_eq_some_iff.1 hu).1
        simpa using this
      rw [intsV_at A j hj] at hu
      cases hu
      have hadd : (⟨g, off, none⟩ : Addr).add j = ⟨g, off + j, none⟩ := addr_add g off j
      rw [hadd, cell_of_row _ g _ _ _ _ hh1]
      exact hc j hj

/-- append, where its run is known ahead -/
theorem wpList_append_run {P : Program} (w : World) {ops : Array Oper} {rest : List Oper} {o : Oper} {a : Act} {Q : Exit → Act → World → Prop} (hgd : o.guard = none) (s x : Operand) (t : TypeId)
    (ho : o.op = .call { callee := .builtin .append, args := #[s, x], argTypes := #[t, t] }) (v y : Value) (hs : a.eval s = v) (hx : a.eval x = y) {v' : Value} {w' : World}
    (hrun : (Builtin.append_ #[t, t] o.type #[v, y]).run P w = .ok v' w') (h : wpList P ops Q rest (a.put o.dst v') w') : wpList P ops Q (o :: rest) a w :=
  wpList_plain hgd fun _ hK => by
    unfold Oper.wp execOp
    simp only [ho, resolve, invoke, builtin, Sem.run_bind, Sem.run_pure, Result.andThen_ok, List.map_toArray, List.map_cons, List.map_nil, hs, hx, hrun]
    exact hK _ _ h
end Go.Proofs.Ytnonncjndlcjgaa
