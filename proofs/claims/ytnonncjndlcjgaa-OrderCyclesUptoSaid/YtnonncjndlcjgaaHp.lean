/- The queue's Less, Len, Swap, and how a method is found behind the interface. -/
import Derived.Test.YtnonncjndlcjgaaFr
import Derived.Outline
import Derived.BigRegion
namespace Go.Proofs.Ytnonncjndlcjgaa
open Go.RowKit

set_option maxHeartbeats 1000000 in
theorem less_any (g n cap i k : Nat) (s t : ByteArray) (a b : Int) (w : World) (hi : i < n) (hk : k < n) (_hc : n ≤ cap) (_hm : cap ≤ 9223372036854775807)
    (c1 : w.cell? ⟨g, i * 2, none⟩ = some (.string s)) (c2 : w.cell? ⟨g, i * 2 + 1, none⟩ = some (.int .i64 a))
    (d1 : w.cell? ⟨g, k * 2, none⟩ = some (.string t)) (d2 : w.cell? ⟨g, k * 2 + 1, none⟩ = some (.int .i64 b)) :
    Calls Try.prog 53 #[.slice (some ⟨g, 0, none⟩) n cap, .int .i64 i, .int .i64 k] w fun e w' => e = .returned (.bool (thB s t a b)) ∧ ∃ q, w' = w.drewN q := by
  have hi' : (i : Int) < (n : Int) := by omega
  have hk' : (k : Int) < (n : Int) := by omega
  by_cases h : s.toList = t.toList
  · have hr : thB s t a b = decide (a < b) := by unfold thB; rw [if_pos h]
    have hb : (!s.toList == t.toList) = false := by rw [h]; simp
    have HR := Lib.hid hr
    clear hr h
    go_enter Try.func53, Try.ntmps53
    go_wp2
    go_quiet (fail)
    go_wp2
    go_quiet (fail)
    go_wp2
    go_ret
    exact ⟨ret_bool (by rw [HR.out]), _, World.drewN_drewN _ _ _⟩
  · have hr : thB s t a b = Op.bytesLess s.toList t.toList := by unfold thB; rw [if_neg h]
    have hb : (!s.toList == t.toList) = true := by simp [h]
    have HR := Lib.hid hr
    clear hr h
    go_enter Try.func53, Try.ntmps53
    go_wp2
    go_quiet (fail)
    go_wp2
    go_quiet (fail)
    go_wp2
    go_ret
    exact ⟨ret_bool (by rw [HR.out]), _, World.drewN_drewN _ _ _⟩

set_option maxHeartbeats 1000000 in
theorem len_any (p : Option Addr) (n cap : Nat) (w : World) :
    Calls Try.prog 28 #[.slice p n cap] w fun e w' => e = .returned (.int .i64 n) ∧ w = w' := by
  go_enter Try.func28, Try.ntmps28
  go_wp2
  go_ret
  exact ⟨rfl, rfl⟩

def Swapped (g i k : Nat) (s t : ByteArray) (a b : Int) (w : World) (e : Ending) (w' : World) : Prop :=
  e = .returned (.tuple #[]) ∧ w' = ((((w.setCell ⟨g, i * 2, none⟩ (.string t)).setCell ⟨g, i * 2 + 1, none⟩ (.int .i64 b)).setCell ⟨g, k * 2, none⟩ (.string s)).setCell ⟨g, k * 2 + 1, none⟩ (.int .i64 a)).drew

set_option maxHeartbeats 1000000 in
theorem swap_any (g n cap i k : Nat) (s t : ByteArray) (a b : Int) (w : World) (hi : i < n) (hk : k < n) (_hc : n ≤ cap) (_hm : cap ≤ 9223372036854775807)
    (c1 : w.cell? ⟨g, i * 2, none⟩ = some (.string s)) (c2 : w.cell? ⟨g, i * 2 + 1, none⟩ = some (.int .i64 a))
    (d1 : w.cell? ⟨g, k * 2, none⟩ = some (.string t)) (d2 : w.cell? ⟨g, k * 2 + 1, none⟩ = some (.int .i64 b))
    (f1 : w.frozen? ⟨g, i * 2, none⟩ = false) (f2 : w.frozen? ⟨g, i * 2 + 1, none⟩ = false) (f3 : w.frozen? ⟨g, k * 2, none⟩ = false) (f4 : w.frozen? ⟨g, k * 2 + 1, none⟩ = false) :
    Calls Try.prog 56 #[.slice (some ⟨g, 0, none⟩) n cap, .int .i64 i, .int .i64 k] w (Swapped g i k s t a b w) := by
  have hi' : (i : Int) < (n : Int) := by omega
  have hk' : (k : Int) < (n : Int) := by omega
  by_cases hne : i = k
  · subst hne
    cases c1.symm.trans d1
    cases c2.symm.trans d2
    clear d1 d2 f3 f4
    go_enter Try.func56, Try.ntmps56
    go_wp2
    go_region
    go_end0
    exact ⟨rfl, rfl⟩
  · go_enter Try.func56, Try.ntmps56
    go_wp2
    go_region
    go_end0
    exact ⟨rfl, rfl⟩

/-! ### behind the interface -/
theorem method_push (a : Addr) (w : World) : (method 189 53 (.pointer (some a)) "Push").run Try.prog w = .ok (55, .pointer (some a)) w := by kernel_rfl
theorem method_pop (a : Addr) (w : World) : (method 189 53 (.pointer (some a)) "Pop").run Try.prog w = .ok (54, .pointer (some a)) w := by kernel_rfl
theorem method_len0 (a : Addr) (w : World) : (method 189 53 (.pointer (some a)) "Len").run Try.prog w = (do let v ← loadVar 55 a; pure (28, v) : Sem (FuncId × Value)).run Try.prog w := by kernel_rfl
theorem method_less0 (a : Addr) (w : World) : (method 189 53 (.pointer (some a)) "Less").run Try.prog w = (do let v ← loadVar 55 a; pure (53, v) : Sem (FuncId × Value)).run Try.prog w := by kernel_rfl
theorem method_swap0 (a : Addr) (w : World) : (method 189 53 (.pointer (some a)) "Swap").run Try.prog w = (do let v ← loadVar 55 a; pure (56, v) : Sem (FuncId × Value)).run Try.prog w := by kernel_rfl
theorem load55 (a : Addr) (v : Value) (w : World) (h : w.cell? a = some v) : (loadVar 55 a).run Try.prog w = .ok v w := by
  simp [loadVar, h]
theorem method_len (a : Addr) (v : Value) (w : World) (h : w.cell? a = some v) : (method 189 53 (.pointer (some a)) "Len").run Try.prog w = .ok (28, v) w := by
  rw [method_len0]; simp [load55 a v w h]
theorem method_less (a : Addr) (v : Value) (w : World) (h : w.cell? a = some v) : (method 189 53 (.pointer (some a)) "Less").run Try.prog w = .ok (53, v) w := by
  rw [method_less0]; simp [load55 a v w h]
theorem method_swap (a : Addr) (v : Value) (w : World) (h : w.cell? a = some v) : (method 189 53 (.pointer (some a)) "Swap").run Try.prog w = .ok (56, v) w := by
  rw [method_swap0]; simp [load55 a v w h]

/-! ### over the queue -/
variable {nm : Nat → ByteArray} {B : Nat} {w : World} {qa : Nat} {H : List Nat} {v : Value}

theorem QAt.name (h : QAt nm B w qa H v) {g cap : Nat} (hv : v = .slice (some ⟨g, 0, none⟩) H.length cap) {j : Nat} (hj : j < H.length) :
    w.cell? ⟨g, j * 2, none⟩ = some (.string (nm (H.getD j 0))) ∧ w.cell? ⟨g, j * 2 + 1, none⟩ = some (.int .i64 (H.getD j 0 : Nat)) := by
  have hr := h.row
  subst hv
  exact ⟨by rw [hr.cellAt _ (by omega)]; exact flat_name nm H j hj, by rw [hr.cellAt _ (by omega)]; exact flat_num nm H j hj⟩

theorem less_q (h : QAt nm B w qa H v) {i k : Nat} (hi : i < H.length) (hk : k < H.length) :
    Calls Try.prog 53 #[v, .int .i64 i, .int .i64 k] w fun e w' => e = .returned (.bool (ltN nm (H.getD i 0) (H.getD k 0))) ∧ ∃ q, w' = w.drewN q := by
  obtain ⟨g, cap, cur, hv, _, _, _, hc, hm⟩ := h.form (by omega)
  have c := h.name hv hi
  have d := h.name hv hk
  subst hv
  exact less_any g H.length cap i k _ _ _ _ w hi hk hc hm c.1 c.2 d.1 d.2

theorem swap_q (h : QAt nm B w qa H v) {i k : Nat} (hi : i < H.length) (hk : k < H.length) :
    Calls Try.prog 56 #[v, .int .i64 i, .int .i64 k] w fun e w' => e = .returned (.tuple #[]) ∧ Fr (QT B) w w' ∧ QAt nm B w' qa (Pl.sw H i k) v := by
  obtain ⟨g, cap, cur, hv, hB, hne, hg, hc, hm⟩ := h.form (by omega)
  have c := h.name hv hi
  have d := h.name hv hk
  have hr := h.row
  have hbox := h.box
  subst hv
  refine (swap_any g H.length cap i k _ _ _ _ w hi hk hc hm c.1 c.2 d.1 d.2 (hr.frozenAt _) (hr.frozenAt _) (hr.frozenAt _) (hr.frozenAt _)).mono ?_
  rintro e w' ⟨he, hw⟩
  have r1 := hr.stored (i * 2) (.string (nm (H.getD k 0)))
  have r2 := r1.1.stored (i * 2 + 1) (.int .i64 (H.getD k 0 : Nat))
  have r3 := r2.1.stored (k * 2) (.string (nm (H.getD i 0)))
  have r4 := r3.1.stored (k * 2 + 1) (.int .i64 (H.getD i 0 : Nat))
  have hx := flat_set nm H i (H.getD k 0) hi
  have hy := flat_set nm (H.set i (H.getD k 0)) k (H.getD i 0) (by simpa using hk)
  have r := r4.1
  rw [hx, hy] at r
  have key : ∀ (W : World), (∃ cur, W.heap[g]? = some (.cells cur 58 (0, 0))) → ∀ o, W.heap[g]? = some o → QT B g o := by
    rintro W ⟨cc, hcc⟩ o ho
    rw [hcc] at ho
    cases ho
    exact ⟨hB, Or.inr rfl⟩
  have blk : ∀ {W : World} {m : Nat} {ys : List Value}, W.ownsRow B 58 2 (.slice (some ⟨g, 0, none⟩) m cap) m ys → ∃ cur, W.heap[g]? = some (.cells cur 58 (0, 0)) := by
    rintro W m ys ⟨_, h0 | ⟨g', cap', cur', h0, _, h1, _⟩⟩
    · cases h0.1
    · cases h0; exact ⟨_, h1⟩
  have f1 : Fr (QT B) w _ := (Fr.refl w).grown r1.2 (fun q o e ho => by cases e; exact key _ (blk hr) o ho)
  have f2 := f1.grown r2.2 (fun q o e ho => by cases e; exact key _ (blk r1.1) o ho)
  have f3 := f2.grown r3.2 (fun q o e ho => by cases e; exact key _ (blk r2.1) o ho)
  have f4 := (f3.grown r4.2 (fun q o e ho => by cases e; exact key _ (blk r3.1) o ho)).drew
  refine ⟨he, by rw [hw]; exact f4, h.old, ?_, ?_⟩
  · rw [hw]
    have hd : ∀ W : World, W.drew.heap = W.heap := fun _ => rfl
    rw [hd, heap_setCell_other _ _ _ _ (by simpa using hne.symm), heap_setCell_other _ _ _ _ (by simpa using hne.symm), heap_setCell_other _ _ _ _ (by simpa using hne.symm), heap_setCell_other _ _ _ _ (by simpa using hne.symm)]
    exact hbox
  · rw [hw, Pl.sw_length]
    exact r.drew
end Go.Proofs.Ytnonncjndlcjgaa
