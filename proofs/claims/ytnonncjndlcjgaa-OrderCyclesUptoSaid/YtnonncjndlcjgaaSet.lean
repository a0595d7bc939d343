/- A map from int to bool that the call makes, as a set of numbers; one from int to int. -/
import Derived.Test.YtnonncjndlcjgaaSort
import Derived.Maps.OwnSet
import Derived.Maps.OwnOps
namespace Go.Proofs.Ytnonncjndlcjgaa
open Go.RowKit
variable {w : World}

theorem keyed3 : Maps.Keyed Try.prog 3 := Maps.int_keyed Try.underlying3
theorem zero4 (w : World) : (zeroValue 4).run Try.prog w = .ok (.bool false) w := by kernel_rfl
theorem zero3 (w : World) : (zeroValue 3).run Try.prog w = .ok (.int .i64 0) w := by kernel_rfl
theorem wf_nat {x : Nat} (h : x ≤ 9223372036854775807) : (Lit.int .i64 (x : Nat)).wf = true := by
  simp only [Lit.wf, IntKind.min, IntKind.max, IntKind.signed, IntKind.bits]
  simp
  omega
theorem key_nat {x : Nat} (h : x ≤ 9223372036854775807) : keyOf Try.prog 3 (.int .i64 (x : Nat)) = some (.int .i64 (x : Nat)) := Maps.keyOf_int_mk Try.underlying3 (wf_nat h)
theorem lit_ne {x y : Nat} (h : x ≠ y) : Lit.int .i64 (x : Nat) ≠ Lit.int .i64 (y : Nat) := by
  intro e
  simp at e
  omega

/-- block b is a map in which just those of S are true; at most n entries -/
def SetAt (w : World) (b n : Nat) (S : Nat → Bool) : Prop :=
  ∃ D : DataW Unit, w.ownsMap Try.prog 3 (plainElem Try.prog 4) b n D ∧ ∀ k : Nat, D.atKey (.int .i64 (k : Nat)) (.lit (.bool false)) = .lit (.bool (S k))

theorem SetAt.made (w : World) : SetAt (w.alloc (.map #[] 0)) w.heap.size 0 (fun _ => false) :=
  ⟨_, World.ownsMap_made w _ _ _, fun k => by simp [DataW.atKey]⟩
theorem SetAt.lt {b n : Nat} {S : Nat → Bool} (h : SetAt w b n S) : b < w.heap.size := by obtain ⟨D, h1, _⟩ := h; exact h1.lt
theorem SetAt.congr {b n : Nat} {S S' : Nat → Bool} (h : SetAt w b n S) (e : ∀ k, S k = S' k) : SetAt w b n S' := by
  obtain ⟨D, h1, h2⟩ := h
  exact ⟨D, h1, fun k => by rw [h2, e]⟩
theorem SetAt.kept {b n : Nat} {S : Nat → Bool} {w' : World} {row : Option Nat} (h : SetAt w b n S) (hg : w.grownBy w' row) (hne : some b ≠ row) : SetAt w' b n S := by
  obtain ⟨D, h1, h2⟩ := h
  exact ⟨D, h1.kept hg hne, h2⟩
theorem SetAt.below {b n : Nat} {S : Nat → Bool} {w' : World} {B : Nat} (h : SetAt w b n S) (hb : Below B w w') (hB : b < B) : SetAt w' b n S := by
  obtain ⟨D, ⟨es, clock, h1, r⟩, h2⟩ := h
  exact ⟨D, ⟨es, clock, by rw [hb.block b hB]; exact h1, r⟩, h2⟩
theorem SetAt.alloc {b n : Nat} {S : Nat → Bool} (h : SetAt w b n S) (o : Obj) : SetAt (w.alloc o) b n S := by
  obtain ⟨D, h1, h2⟩ := h
  exact ⟨D, h1.alloc o, h2⟩

theorem plain_bool {v : Value} {z : DataW Unit × List MemPlace} (h : plainElem Try.prog 4 v = some z) : ∃ x, v = .bool x ∧ z.1 = .lit (.bool x) := by
  unfold plainElem at h
  rw [Try.underlying4] at h
  cases v <;> simp at h
  subst h
  exact ⟨_, rfl, rfl⟩

theorem SetAt.look {b n : Nat} {S : Nat → Bool} (h : SetAt w b n S) {x : Nat} (hx : x ≤ 9223372036854775807) : (Instr.lookup 43 (.map (some b)) (.int .i64 (x : Nat)) false).run Try.prog w = .ok (.bool (S x)) w := by
  obtain ⟨D, h1, h2⟩ := h
  obtain ⟨v, ps, hrun, hv⟩ := h1.lookup keyed3 Try.underlying43 (zero4 w) (plainElem_bool Try.underlying4 false) (key_nat hx)
  rw [h2 x] at hv
  obtain ⟨y, rfl, hy⟩ := plain_bool hv
  simp at hy
  rw [hrun, hy]

theorem SetAt.put {b n : Nat} {S : Nat → Bool} (h : SetAt w b n S) {x : Nat} (hx : x ≤ 9223372036854775807) (hn : n < 9223372036854775807) :
    ∃ w', (Instr.mapUpdate 43 (.map (some b)) (.int .i64 (x : Nat)) (.bool true)).run Try.prog w = .ok () w' ∧ SetAt w' b (n + 1) (fun k => if k = x then true else S k) ∧ w.grownBy w' (some b) := by
  obtain ⟨D, h1, h2⟩ := h
  obtain ⟨w', hrun, h3, h4⟩ := h1.update keyed3 Try.underlying43 (by unfold maxLen; omega) (key_nat hx) (plainElem_bool Try.underlying4 true)
  refine ⟨w', hrun, ⟨_, h3, fun k => ?_⟩, h4⟩
  by_cases e : k = x
  · subst e
    rw [Maps.atKey_put_same h1.isMap (keyed3.key (key_nat hx))]
    simp
  · rw [Maps.atKey_put_other (lit_ne e), h2]
    simp [e]

/-- block b is a map from the numbers of S, which holds f there -/
def NumAt (w : World) (b n : Nat) (S : Nat → Bool) (f : Nat → Nat) : Prop :=
  ∃ D : DataW Unit, w.ownsMap Try.prog 3 (plainElem Try.prog 3) b n D ∧ ∀ k : Nat, Maps.has D (.int .i64 (k : Nat)) = S k ∧ D.atKey (.int .i64 (k : Nat)) (.lit (.int .i64 0)) = .lit (.int .i64 (if S k then (f k : Nat) else 0))

theorem NumAt.made (w : World) : NumAt (w.alloc (.map #[] 0)) w.heap.size 0 (fun _ => false) (fun _ => 0) :=
  ⟨_, World.ownsMap_made w _ _ _, fun k => by simp [DataW.atKey, Maps.has]⟩
theorem NumAt.lt {b n : Nat} {S : Nat → Bool} {f : Nat → Nat} (h : NumAt w b n S f) : b < w.heap.size := by obtain ⟨D, h1, _⟩ := h; exact h1.lt
theorem NumAt.kept {b n : Nat} {S : Nat → Bool} {f : Nat → Nat} {w' : World} {row : Option Nat} (h : NumAt w b n S f) (hg : w.grownBy w' row) (hne : some b ≠ row) : NumAt w' b n S f := by
  obtain ⟨D, h1, h2⟩ := h
  exact ⟨D, h1.kept hg hne, h2⟩

theorem plain_int {v : Value} {z : DataW Unit × List MemPlace} (h : plainElem Try.prog 3 v = some z) : ∃ x, v = .int .i64 x ∧ z.1 = .lit (.int .i64 x) := by
  obtain ⟨a, rfl, rfl, _⟩ := plainElem_int_inv Try.underlying3 h
  exact ⟨a, rfl, rfl⟩

theorem NumAt.look {b n : Nat} {S : Nat → Bool} {f : Nat → Nat} (h : NumAt w b n S f) {x : Nat} (hx : x ≤ 9223372036854775807) : (Instr.lookup 36 (.map (some b)) (.int .i64 (x : Nat)) false).run Try.prog w = .ok (.int .i64 (if S x then (f x : Nat) else 0)) w := by
  obtain ⟨D, h1, h2⟩ := h
  obtain ⟨v, ps, hrun, hv⟩ := h1.lookup keyed3 Try.underlying36 (zero3 w) (plainElem_int Try.underlying3 (by decide)) (key_nat hx)
  rw [(h2 x).2] at hv
  obtain ⟨y, rfl, hy⟩ := plain_int hv
  simp only [DataW.lit.injEq, Lit.int.injEq, true_and] at hy
  rw [hrun, ← hy]

theorem NumAt.look_ok {b n : Nat} {S : Nat → Bool} {f : Nat → Nat} (h : NumAt w b n S f) {x : Nat} (hx : x ≤ 9223372036854775807) : ∃ v, (Instr.lookup 36 (.map (some b)) (.int .i64 (x : Nat)) true).run Try.prog w = .ok (.tuple #[v, .bool (S x)]) w := by
  obtain ⟨D, h1, h2⟩ := h
  obtain ⟨v, ps, hrun, hv⟩ := h1.look_ok keyed3 Try.underlying36 (zero3 w) (plainElem_int Try.underlying3 (by decide)) (key_nat hx)
  rw [(h2 x).1] at hrun
  exact ⟨v, hrun⟩

theorem NumAt.put {b n : Nat} {S : Nat → Bool} {f : Nat → Nat} (h : NumAt w b n S f) {x y : Nat} (hx : x ≤ 9223372036854775807) (hy : y ≤ 9223372036854775807) (hn : n < 9223372036854775807) :
    ∃ w', (Instr.mapUpdate 36 (.map (some b)) (.int .i64 (x : Nat)) (.int .i64 (y : Nat))).run Try.prog w = .ok () w' ∧ NumAt w' b (n + 1) (fun k => if k = x then true else S k) (fun k => if k = x then y else f k) ∧ w.grownBy w' (some b) := by
  obtain ⟨D, h1, h2⟩ := h
  obtain ⟨w', hrun, h3, h4⟩ := h1.update keyed3 Try.underlying36 (by unfold maxLen; omega) (key_nat hx) (plainElem_int Try.underlying3 (wf_nat hy))
  refine ⟨w', hrun, ⟨_, h3, fun k => ?_⟩, h4⟩
  by_cases e : k = x
  · subst e
    rw [Maps.atKey_put_same h1.isMap (keyed3.key (key_nat hx)), Maps.has_put_same h1.isMap (keyed3.key (key_nat hx))]
    simp
  · rw [Maps.atKey_put_other (lit_ne e), Maps.has_put_other (lit_ne e), (h2 k).1, (h2 k).2]
    simp [e]
end Go.Proofs.Ytnonncjndlcjgaa
