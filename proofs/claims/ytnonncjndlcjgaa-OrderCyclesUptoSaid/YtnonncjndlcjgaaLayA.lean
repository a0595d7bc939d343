/- order.lay, its first loop: what each step does to what is known. No walk. -/
import Derived.Test.YtnonncjndlcjgaaSt
namespace Go.Proofs.Ytnonncjndlcjgaa
open Go.RowKit
variable {nm : Nat → ByteArray} {M : List (List Nat)} {w : World} {n k : Nat}

theorem nodup_le {H : List Nat} (h : H.Nodup) {n : Nat} (hl : ∀ j ∈ H, j < n) : H.length ≤ n := by
  have := h.length_le_of_subset (l₂ := List.range n) (fun j hj => List.mem_range.2 (hl j hj))
  simpa using this

theorem LaySt.congr {w0 : World} {lb ub qa B1 : Nat} {f g : Nat → Nat} {U V : Nat → List Nat} {H : List Nat} (h : LaySt nm w0 lb ub qa B1 n w f U H) (hf : ∀ j, j < n → f j = g j) (hU : ∀ j, j < n → U j = V j) : LaySt nm w0 lb ub qa B1 n w g V H := by
  obtain ⟨vs, hu⟩ := h.users
  refine ⟨h.below, h.lacks.congr fun j hj => by rw [hf j hj], ⟨vs, hu.row, fun j hj => by rw [← hU j hj]; exact hu.own j hj, hu.apart⟩, h.queue, h.lbB, h.ubB, h.B1w⟩

/-- lay's first loop, k things looked at -/
def Ph1 (nm : Nat → ByteArray) (M : List (List Nat)) (w : World) (n k : Nat) (wr : World) : Prop :=
  ∃ H, LaySt nm w w.heap.size (w.heap.size + 1) (w.heap.size + 1 + 1 + 1) (w.heap.size + 1 + 1 + 1 + 1) n wr (fun j => if j < k then (M.getD j []).length else 0) (fun x => Pl.usr M x k) H ∧
    H.Nodup ∧ (∀ j, j ∈ H ↔ j < k ∧ M.getD j [] = []) ∧ Pl.HeapTo (ltN nm) H H.length
/-- .. and t of the next one's needs -/
def Ph1in (nm : Nat → ByteArray) (M : List (List Nat)) (w : World) (n k : Nat) (l : List Nat) (t : Nat) (wr : World) : Prop :=
  ∃ H, LaySt nm w w.heap.size (w.heap.size + 1) (w.heap.size + 1 + 1 + 1) (w.heap.size + 1 + 1 + 1 + 1) n wr (fun j => if j < k + 1 then (M.getD j []).length else 0) (fun x => Pl.usr M x k ++ List.replicate ((l.take t).count x) k) H ∧
    H.Nodup ∧ (∀ j, j ∈ H ↔ j < k ∧ M.getD j [] = []) ∧ Pl.HeapTo (ltN nm) H H.length

theorem ph1_start (nm : Nat → ByteArray) (M : List (List Nat)) (w : World) (n : Nat) :
    Ph1 nm M w n 0 ((((w.alloc (.cells (madeCells #[.int .i64 0] n) 3)).alloc (.cells (madeCells #[.slice none 0 0] n) 26)).alloc (.cells #[] 58)).alloc (.cells #[.slice (some ⟨w.heap.size + 1 + 1, 0, none⟩) 0 0] 55)) := by
  have s1 : (w.alloc (.cells (madeCells #[.int .i64 0] n) 3)).heap.size = w.heap.size + 1 := by simp
  have s2 : ((w.alloc (.cells (madeCells #[.int .i64 0] n) 3)).alloc (.cells (madeCells #[.slice none 0 0] n) 26)).heap.size = w.heap.size + 1 + 1 := by simp
  have s3 : (((w.alloc (.cells (madeCells #[.int .i64 0] n) 3)).alloc (.cells (madeCells #[.slice none 0 0] n) 26)).alloc (.cells #[] 58)).heap.size = w.heap.size + 1 + 1 + 1 := by simp
  have r1 := (((World.rowIs_made w (.int .i64 0) n 3).alloc (.cells (madeCells #[.slice none 0 0] n) 26)).alloc (.cells #[] 58)).alloc (.cells #[.slice (some ⟨w.heap.size + 1 + 1, 0, none⟩) 0 0] 55)
  have r2 := ((World.rowIs_made (w.alloc (.cells (madeCells #[.int .i64 0] n) 3)) (.slice none 0 0) n 26).alloc (.cells #[] 58)).alloc (.cells #[.slice (some ⟨w.heap.size + 1 + 1, 0, none⟩) 0 0] 55)
  rw [s1] at r2
  refine ⟨[], ⟨?_, r1.congr fun j _ => by simp, ⟨fun _ => .slice none 0 0, r2, fun j _ => ?_, fun _ _ _ _ _ => Or.inl rfl⟩, ⟨.slice (some ⟨w.heap.size + 1 + 1, 0, none⟩) 0 0, by omega, ?_, ?_⟩, ⟨by omega, by omega⟩, ⟨by omega, by omega⟩, by simp⟩, List.nodup_nil, fun j => by simp, fun k h0 hk => by simp at hk⟩
  · exact ((((Below.refl _ w).alloc (Nat.le_refl _) _).alloc (by omega) _).alloc (by omega) _).alloc (by omega) _
  · simp only [Pl.usr, List.range_zero, List.flatMap_nil, intsV, List.map_nil, List.length_nil]
    exact World.ownsRow_nil _ _ _ _
  · have h := heap_alloc_new (((w.alloc (.cells (madeCells #[.int .i64 0] n) 3)).alloc (.cells (madeCells #[.slice none 0 0] n) 26)).alloc (.cells #[] 58)) (.cells #[.slice (some ⟨w.heap.size + 1 + 1, 0, none⟩) 0 0] 55)
    rw [s3] at h
    exact h
  · have h := World.ownsRow_lit (base := w.heap.size) (e := 58) (size := 2) ((w.alloc (.cells (madeCells #[.int .i64 0] n) 3)).alloc (.cells (madeCells #[.slice none 0 0] n) 26)) #[] 0 (by omega) (by unfold maxLen; omega) (by simp)
    rw [s2] at h
    exact h.alloc _

theorem ph1_store {wr : World} (h : Ph1 nm M w n k wr) : Ph1in nm M w n k (M.getD k []) 0 (wr.setCell ⟨w.heap.size, k, none⟩ (.int .i64 ((M.getD k []).length : Nat))) := by
  obtain ⟨H, hs, h1, h2, h3⟩ := h
  refine ⟨H, (hs.setLacks k _).congr (fun j _ => ?_) (fun j _ => ?_), h1, h2, h3⟩
  · by_cases e : j = k
    · subst e; simp
    · by_cases e2 : j < k
      · have : j < k + 1 := by omega
        simp [e, e2, this]
      · have : ¬ j < k + 1 := by omega
        simp [e, e2, this]
  · simp

theorem ph1_add {l : List Nat} {t : Nat} {wr : World} {H : List Nat} (ht : t < l.length) {x : Nat} (hx : l.getD t 0 = x) (hxn : x < n)
    (hs : LaySt nm w w.heap.size (w.heap.size + 1) (w.heap.size + 1 + 1 + 1) (w.heap.size + 1 + 1 + 1 + 1) n wr (fun j => if j < k + 1 then (M.getD j []).length else 0) (fun x => Pl.usr M x k ++ List.replicate ((l.take t).count x) k) H)
    (h1 : H.Nodup) (h2 : ∀ j, j ∈ H ↔ j < k ∧ M.getD j [] = []) (h3 : Pl.HeapTo (ltN nm) H H.length) {vs : Nat → Value}
    (hu : Users wr (w.heap.size + 1) (w.heap.size + 1 + 1 + 1 + 1) n (fun x => Pl.usr M x k ++ List.replicate ((l.take t).count x) k) vs)
    {U : List Nat} (hU : Pl.usr M x k ++ List.replicate ((l.take t).count x) k = U) {o : Obj} {g cap : Nat} {w1 : World}
    (hown : w1.ownsRow (w.heap.size + 1 + 1 + 1 + 1) 3 1 (.slice (some ⟨g, 0, none⟩) (U.length + 1) cap) (U.length + 1) (intsV U ++ [.int .i64 (k : Nat)]))
    (hgrow : (wr.alloc o).grownBy w1 (vs x).ownBlock) (hat : (vs x).ownBlock = some g ∨ g = wr.heap.size + 1) :
    Ph1in nm M w n k l (t + 1) (w1.setCell ⟨w.heap.size + 1, x, none⟩ (.slice (some ⟨g, 0, none⟩) (U.length + 1) cap)) := by
  subst hU
  refine ⟨H, (hs.added hu hxn hown hgrow hat).congr (fun _ _ => rfl) (fun j _ => ?_), h1, h2, h3⟩
  have e := Pl.take_succ_getD l t ht
  rw [hx] at e
  rw [e, List.count_append]
  by_cases ej : j = x
  · subst ej
    rw [if_pos rfl]
    simp only [List.count_singleton_self]
    rw [List.replicate_succ', List.append_assoc]
  · rw [if_neg ej]
    have e0 : List.count j [x] = 0 := by rw [List.count_eq_zero]; simpa using ej
    rw [e0]; rfl

theorem ph1_users {l : List Nat} (hl : M.getD k [] = l) (x : Nat) : Pl.usr M x k ++ List.replicate ((l.take l.length).count x) k = Pl.usr M x (k + 1) := by
  rw [Pl.usr_succ, hl, List.take_length]

theorem ph1_skip {l : List Nat} (hl : M.getD k [] = l) (hne : l ≠ []) {wr : World} (h : Ph1in nm M w n k l l.length wr) : Ph1 nm M w n (k + 1) wr := by
  obtain ⟨H, hs, h1, h2, h3⟩ := h
  refine ⟨H, hs.congr (fun _ _ => rfl) (fun j _ => ph1_users hl j), h1, fun j => ?_, h3⟩
  rw [h2]
  constructor
  · rintro ⟨a, b⟩; exact ⟨by omega, b⟩
  · rintro ⟨a, b⟩
    refine ⟨?_, b⟩
    by_cases e : j = k
    · subst e; rw [hl] at b; exact absurd b hne
    · omega

theorem ph1_push {wr w' : World} {H H' : List Nat} (hl : M.getD k [] = [])
    (hs : LaySt nm w w.heap.size (w.heap.size + 1) (w.heap.size + 1 + 1 + 1) (w.heap.size + 1 + 1 + 1 + 1) n wr (fun j => if j < k + 1 then (M.getD j []).length else 0) (fun x => Pl.usr M x k ++ List.replicate ((([] : List Nat).take 0).count x) k) H)
    (h1 : H.Nodup) (h2 : ∀ j, j ∈ H ↔ j < k ∧ M.getD j [] = []) (hf : Fr (QT w.heap.size) wr w') {v : Value} (hq : QAt nm w.heap.size w' (w.heap.size + 1 + 1 + 1) H' v) (hp : H'.Perm (H ++ [k])) (hh : Pl.HeapTo (ltN nm) H' H'.length) :
    Ph1 nm M w n (k + 1) w' := by
  refine ⟨H', (hs.queued hf ⟨v, hq⟩).congr (fun _ _ => rfl) (fun j _ => ph1_users hl j), hp.nodup_iff.2 ?_, fun j => ?_, hh⟩
  · rw [List.nodup_append]
    exact ⟨h1, by simp, fun a ha b hb => by simp at hb; subst hb; have := (h2 a).1 ha; omega⟩
  · rw [hp.mem_iff, List.mem_append, h2]
    constructor
    · rintro (⟨a, b⟩ | a)
      · exact ⟨by omega, b⟩
      · simp at a; subst a; exact ⟨by omega, hl⟩
    · rintro ⟨a, b⟩
      by_cases e : j = k
      · right; simp [e]
      · exact Or.inl ⟨by omega, b⟩
end Go.Proofs.Ytnonncjndlcjgaa
