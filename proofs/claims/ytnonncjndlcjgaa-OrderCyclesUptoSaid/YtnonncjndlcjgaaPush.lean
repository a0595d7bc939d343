/- The queue's Push and Pop, and container/heap's. -/
import Derived.Test.YtnonncjndlcjgaaDn
import Derived.Deep.AppendLies
import Derived.Deep.RegionLaw
namespace Go.Proofs.Ytnonncjndlcjgaa
open Go.RowKit
variable {nm : Nat → ByteArray} {B : Nat} {w : World} {qa : Nat} {H : List Nat} {v : Value}

theorem Try.info58 : (Try.prog.info? 58).map (fun i => (i.zero, i.size, i.bytes)) = some (some (.agg #[.string ByteArray.empty, .int .i64 0]), 2, 24) := by kernel_rfl

theorem assert_thing (s : ByteArray) (x : Int) (w : World) : (Instr.typeAssert (.iface 58 (.agg #[.string s, .int .i64 x])) 20 58 false).run Try.prog w = .ok (.agg #[.string s, .int .i64 x]) w := by kernel_rfl

theorem QAt.own_ne (h : QAt nm B w qa H v) : v.ownBlock ≠ some qa := by
  intro e
  rcases h.row.2 with ⟨rfl, _⟩ | ⟨g, cap, cur, rfl, _, hg, _⟩
  · cases e
  · cases e
    rw [h.box] at hg
    cases hg

/-- what the append and the store behind it leave -/
theorem QAt.pushed (h : QAt nm B w qa H v) (x : Nat) {o : Obj} {g cap : Nat} {w1 : World} (hown : w1.ownsRow B 58 2 (.slice (some ⟨g, 0, none⟩) (H.length + 1) cap) (H.length + 1) (flat nm H ++ [.string (nm x), .int .i64 (x : Nat)]))
    (hgrow : (w.alloc o).grownBy w1 v.ownBlock) (hat : v.ownBlock = some g ∨ g = w.heap.size + 1) :
    Fr (QT B) w (w1.setCell ⟨qa, 0, none⟩ (.slice (some ⟨g, 0, none⟩) (H.length + 1) cap)) ∧ QAt nm B (w1.setCell ⟨qa, 0, none⟩ (.slice (some ⟨g, 0, none⟩) (H.length + 1) cap)) qa (H ++ [x]) (.slice (some ⟨g, 0, none⟩) (H.length + 1) cap) := by
  have hlt := h.lt
  have hb1 : w1.heap[qa]? = some (.cells #[v] 55 (0, 0)) := by
    rw [hgrow.block qa (by simp; omega) (Ne.symm h.own_ne), Below.heap_alloc w _ _ hlt]
    exact h.box
  have f1 : Fr (QT B) w w1 := ((Fr.refl w).alloc o).grown hgrow (fun k o' hk ho => by
    rcases h.row.2 with ⟨rfl, _⟩ | ⟨g', cap', cur, rfl, hB, hg, _⟩
    · cases hk
    · cases hk
      have hg2 := (Array.getElem?_eq_some_iff.1 hg).1
      rw [Below.heap_alloc w _ _ hg2, hg] at ho
      cases ho
      exact ⟨hB, Or.inr rfl⟩)
  have hne : g ≠ qa := by
    rcases hat with e | e
    · intro e2; subst e2; exact h.own_ne e
    · omega
  refine ⟨f1.setCell _ _ (fun o' ho => by rw [hb1] at ho; cases ho; exact ⟨h.old, Or.inl rfl⟩), h.old, ?_, ?_⟩
  · rw [heap_setCell_same w1 qa 0 _ _ _ hb1]; rfl
  · have e1 : (H ++ [x]).length = H.length + 1 := by simp
    have e2 : flat nm (H ++ [x]) = flat nm H ++ [.string (nm x), .int .i64 (x : Nat)] := by rw [flat_append]; rfl
    rw [e1, e2]
    exact hown.kept (row := some qa) ⟨rfl, rfl, rfl, by simp [World.setCell], fun k _ hk => heap_setCell_other w1 _ k _ (fun e => hk (by rw [e]))⟩ (Or.inr (by show some g ≠ some qa; simpa using hne))

def PushPost (nm : Nat → ByteArray) (B : Nat) (w : World) (qa : Nat) (H : List Nat) (e : Ending) (w' : World) : Prop :=
  e = .returned (.tuple #[]) ∧ Fr (QT B) w w' ∧ ∃ v', QAt nm B w' qa H v'

set_option maxHeartbeats 2000000 in
theorem qpush_any (hq : QAt nm B w qa H v) (hlen : H.length ≤ 1099511627776) (x : Nat) :
    Calls Try.prog 55 #[.pointer (some ⟨qa, 0, none⟩), .iface 58 (.agg #[.string (nm x), .int .i64 (x : Nat)])] w (PushPost nm B w qa (H ++ [x])) := by
  obtain ⟨i0, hi, hz0, hz1, hz2⟩ := info_parts Try.info58
  have hc := hq.cell
  have hf := hq.free
  have hrow := hq.row
  have HQ := Lib.hid hq
  have hblk : ∀ w1, (w.alloc (.cells #[.string (nm x), .int .i64 (x : Nat)] 58)).grownBy w1 v.ownBlock → w1.heap[qa]? = some (.cells #[v] 55 (0, 0)) := fun w1 hg => by
    have h1 := hq.lt
    rw [hg.block qa (by simp; omega) (Ne.symm hq.own_ne), Below.heap_alloc w _ _ hq.lt]; exact hq.box
  have HCQ : Hid (∀ w1, (w.alloc (.cells #[.string (nm x), .int .i64 (x : Nat)] 58)).grownBy w1 v.ownBlock → w1.cell? ⟨qa, 0, none⟩ = some v) := Lib.hid fun w1 hg => by rw [cell_of_row w1 qa 0 _ _ _ (hblk w1 hg)]; rfl
  have HFQ : Hid (∀ w1, (w.alloc (.cells #[.string (nm x), .int .i64 (x : Nat)] 58)).grownBy w1 v.ownBlock → w1.frozen? ⟨qa, 0, none⟩ = false) := Lib.hid fun w1 hg => frozen_of_row w1 qa 0 _ _ (hblk w1 hg)
  clear hblk
  have hca : ∀ o, (w.alloc o).cell? ⟨qa, 0, none⟩ = some v := fun o => by rw [World.cell?_of_block (w := w) (Below.heap_alloc w o qa hq.lt)]; exact hc
  have HROW := Lib.hid hrow
  have HI := Lib.hid hi
  have HZ0 := Lib.hid hz0
  have HZ1 := Lib.hid hz1
  have HZ2 := Lib.hid hz2
  clear hq hrow hi hz0 hz1 hz2
  have hta := fun w => assert_thing (nm x) (x : Nat) w
  go_enter Try.func55, Try.ntmps55
  go_wp2
  go_region_law ((refine step_append_lies _ rfl (.tmp 7) (.tmp 10) 55 rfl B 58 i0 _ 2 24 Try.underlying55 HI.out HZ0.out HZ1.out HZ2.out rfl (by decide) v _ _ (by simp [Act.eval]) (HROW.out.alloc _) ⟨w.heap.size, 0, none⟩ 1 1 [.string (nm x), .int .i64 (x : Nat)] (by simp [Act.eval]) rfl (World.news_of_block (cs := #[.string (nm x), .int .i64 (x : Nat)]) (t := 58) (fr := (0,0)) (heap_alloc_new w _)) (by intro u hu; simp at hu; rcases hu with rfl | rfl <;> rfl) (by decide) (by unfold maxLen; omega) (by omega) (by have := HQ.out.lt; have := HQ.out.old; simp; omega) _ rfl ?_; intro g gcap w1 hown hgrow0 hat hlt; have hgrow : (w.alloc (.cells #[.string (nm x), .int .i64 (x : Nat)] 58)).grownBy w1 v.ownBlock := ⟨hgrow0.os, hgrow0.tape, hgrow0.output, hgrow0.size, hgrow0.block⟩; have hcq := HCQ.out w1 hgrow; have hfq := HFQ.out w1 hgrow; have HP := Lib.hid (HQ.out.pushed x hown hgrow (hat.imp_right (fun h => by simpa using h))); clear hown hgrow hgrow0 hat))
  all_goals
    go_end0
    exact ⟨rfl, HP.out.1, _, HP.out.2⟩

/-- what a push leaves: a heap with one thing more -/
def HPushPost (nm : Nat → ByteArray) (B : Nat) (w : World) (qa : Nat) (H : List Nat) (e : Ending) (w' : World) : Prop :=
  e = .returned (.tuple #[]) ∧ Fr (QT B) w w' ∧ ∃ v' H', QAt nm B w' qa H' v' ∧ H'.Perm H ∧ Pl.HeapTo (ltN nm) H' H'.length

set_option maxHeartbeats 2000000 in
theorem hpush_any (hq : QAt nm B w qa H v) (hlen : H.length ≤ 1099511627775) (hh : Pl.HeapTo (ltN nm) H H.length) (x : Nat) :
    Calls Try.prog 27 #[.iface 53 (.pointer (some ⟨qa, 0, none⟩)), .iface 58 (.agg #[.string (nm x), .int .i64 (x : Nat)])] w (HPushPost nm B w qa (H ++ [x])) := by
  have C1 := Lib.hid (qpush_any hq (by omega) x)
  have U := Lib.hid fun (w1 : World) (v1 : Value) (h : QAt nm B w1 qa (H ++ [x]) v1) => up_any h (by simp; omega) H.length (by simp) (Pl.up_start x hh)
  have hm := fun w => method_push ⟨qa, 0, none⟩ w
  clear hq hh
  go_enter Try.func27, Try.ntmps27
  go_wp2_with fail
  refine C1.out.mono ?_
  rintro e w1 ⟨rfl, hf1, v1, hq1⟩
  obtain ⟨p1, c1, hv1⟩ : ∃ p c, v1 = .slice p (H.length + 1) c := by
    obtain ⟨g, cap, _, hv, _⟩ := hq1.form (by simp)
    exact ⟨some ⟨g, 0, none⟩, cap, hv.trans (by rw [List.length_append]; rfl)⟩
  have hm2 := method_len ⟨qa, 0, none⟩ v1 w1 hq1.cell
  have HF := Lib.hid hf1
  have HQ1 := Lib.hid hq1
  have L := Lib.hid (len_any p1 (H.length + 1) c1 w1)
  subst hv1
  clear hf1 hq1
  go_wp2_with fail
  refine L.out.mono ?_
  rintro e w2 ⟨rfl, rfl⟩
  go_wp2_with fail
  refine (U.out _ _ HQ1.out).mono ?_
  rintro e w2 ⟨rfl, hf2, H', hq2, hp2, hh2⟩
  go_wp2_with fail
  go_end0
  exact ⟨rfl, HF.out.trans hf2, _, H', hq2, hp2, hh2⟩
end Go.Proofs.Ytnonncjndlcjgaa
