/- order.lay, its second loop: what each step does to what is known. No walk. -/
import Derived.Test.YtnonncjndlcjgaaLayA
import Derived.Deep.Onto
namespace Go.Proofs.Ytnonncjndlcjgaa
open Go.RowKit
variable {nm : Nat → ByteArray} {M : List (List Nat)} {w wr : World} {n B2 : Nat} {vs : Nat → Value} {f : Nat → Nat} {U : Nat → List Nat} {H L : List Nat} {v : Value}

theorem QAt.shape {B qa : Nat} (h : QAt nm B w qa H v) : ∃ p c, v = .slice p H.length c := by
  rcases h.row.2 with ⟨e, h0⟩ | ⟨g, cap, cur, e, _⟩
  · exact ⟨none, 0, by rw [e, h0]⟩
  · exact ⟨_, cap, e⟩

structure St2 (nm : Nat → ByteArray) (w : World) (n B2 : Nat) (vs : Nat → Value) (U : Nat → List Nat) (wr : World) (f : Nat → Nat) (H L : List Nat) (v : Value) : Prop where
  below : Below w.heap.size w wr
  lacks : wr.rowIs w.heap.size 3 n (fun j => .int .i64 (f j : Nat))
  users : Users wr (w.heap.size + 1) (w.heap.size + 1 + 1 + 1 + 1) n U vs
  usersB : ∀ k, k < n → ∀ g, (vs k).ownBlock = some g → g < B2
  queue : ∃ qv, QAt nm w.heap.size wr (w.heap.size + 1 + 1 + 1) H qv
  out : wr.ownsRow B2 3 1 v L.length (intsV L)
  B2w : w.heap.size + 1 + 1 + 1 + 1 ≤ B2 ∧ B2 ≤ wr.heap.size

theorem St2.start (h : LaySt nm w w.heap.size (w.heap.size + 1) (w.heap.size + 1 + 1 + 1) (w.heap.size + 1 + 1 + 1 + 1) n wr f U H) : ∃ vs, St2 nm w n wr.heap.size vs U wr f H [] (.slice none 0 0) := by
  obtain ⟨vs, hu⟩ := h.users
  exact ⟨vs, h.below, h.lacks, hu, fun k hk g hg => ((hu.own k hk).lt g hg).2, h.queue, World.ownsRow_nil _ _ _ _, h.B1w, Nat.le_refl _⟩

theorem Users.fr {ub B1 : Nat} {T : Nat → Obj → Prop} {w' : World} (h : Users wr ub B1 n U vs) (hf : Fr T wr w') (h1 : ∀ o, elemT o = some 26 → ¬ T ub o) (h2 : ∀ k, k < n → ∀ g o, (vs k).ownBlock = some g → elemT o = some 3 → ¬ T g o) : Users w' ub B1 n U vs :=
  ⟨hf.rowIs h.row (fun o ho => h1 o ho), fun k hk => hf.row (h.own k hk) (fun g o hg ho => h2 k hk g o hg ho), h.apart⟩

theorem St2.queued (h : St2 nm w n B2 vs U wr f H L v) {w' : World} {H' : List Nat} (hf : Fr (QT w.heap.size) wr w') (hq : ∃ qv, QAt nm w.heap.size w' (w.heap.size + 1 + 1 + 1) H' qv) : St2 nm w n B2 vs U w' f H' L v := by
  have hT : ∀ (k : Nat) (o : Obj) (e : TypeId), e ≠ 55 → e ≠ 58 → elemT o = some e → ¬ QT w.heap.size k o := by
    rintro k o e h1 h2 ho ⟨_, h3 | h3⟩
    · rw [ho] at h3; cases h3; exact h1 rfl
    · rw [ho] at h3; cases h3; exact h2 rfl
  exact ⟨h.below.trans (hf.below h.below.size (fun k o hk hT => by have := hT.1; omega)), hf.rowIs h.lacks (fun o ho => hT _ o 3 (by decide) (by decide) ho),
    h.users.fr hf (fun o ho => hT _ o 26 (by decide) (by decide) ho) (fun _ _ g o _ ho => hT g o 3 (by decide) (by decide) ho), h.usersB, hq,
    hf.row h.out (fun k o _ ho => hT k o 3 (by decide) (by decide) ho), h.B2w.1, Nat.le_trans h.B2w.2 hf.size⟩

theorem St2.alloc (h : St2 nm w n B2 vs U wr f H L v) (o : Obj) : St2 nm w n B2 vs U (wr.alloc o) f H L v := by
  obtain ⟨qv, hq⟩ := h.queue
  have hf : Fr (fun _ _ => False) wr (wr.alloc o) := (Fr.refl wr).alloc o
  exact ⟨h.below.alloc (h.below.size) o, h.lacks.alloc o, h.users.fr hf (fun _ _ h => h) (fun _ _ _ _ _ _ h => h), h.usersB, ⟨qv, hq.keep hf (fun _ _ _ h => h)⟩, h.out.alloc o, h.B2w.1, Nat.le_trans h.B2w.2 hf.size⟩

/-- lacks[i] = m -/
theorem St2.setLacks (h : St2 nm w n B2 vs U wr f H L v) (i m : Nat) : St2 nm w n B2 vs U (wr.setCell ⟨w.heap.size, i, none⟩ (.int .i64 (m : Nat))) (fun j => if j = i then m else f j) H L v := by
  obtain ⟨qv, hq⟩ := h.queue
  have hB := h.B2w.1
  have hf : Fr (fun k o => k = w.heap.size ∧ elemT o = some 3) wr (wr.setCell ⟨w.heap.size, i, none⟩ (.int .i64 (m : Nat))) := (Fr.refl wr).setCell _ _ (fun o ho => by
    obtain ⟨c, hc, _⟩ := h.lacks
    rw [hc] at ho; cases ho; exact ⟨rfl, rfl⟩)
  refine ⟨h.below.setCell (Nat.le_refl _) _, (h.lacks.set i _).congr fun j _ => ?_, h.users.fr hf ?_ ?_, h.usersB, ⟨qv, hq.keep hf ?_⟩, ownsRow_setCell_below h.out (by show w.heap.size < B2; omega) _, hB, by simpa [World.setCell] using h.B2w.2⟩
  · by_cases e : j = i <;> simp [e]
  · rintro o ho ⟨h1, _⟩; omega
  · rintro k hk g o hg _ ⟨h1, _⟩
    have := ((h.users.own k hk).lt g hg).1
    omega
  · rintro k o ho ⟨_, h2⟩
    rcases ho with ho | ho <;> rw [h2] at ho <;> cases ho

/-- out = append(out, x) -/
theorem St2.laid (h : St2 nm w n B2 vs U wr f H L v) {x : Nat} {o : Obj} {g cap : Nat} {w1 : World}
    (hown : w1.ownsRow B2 3 1 (.slice (some ⟨g, 0, none⟩) (L.length + 1) cap) (L.length + 1) (intsV L ++ [.int .i64 (x : Nat)]))
    (hgrow : (wr.alloc o).grownBy w1 v.ownBlock) :
    St2 nm w n B2 vs U w1 f H (L ++ [x]) (.slice (some ⟨g, 0, none⟩) (L.length + 1) cap) := by
  obtain ⟨qv, hq⟩ := h.queue
  have hB := h.B2w
  have hf : Fr (fun k o => B2 ≤ k ∧ elemT o = some 3) wr w1 := ((Fr.refl wr).alloc o).grown hgrow (fun b o' hb ho => by
    have hlt := h.out.lt b hb
    refine ⟨hlt.1, ?_⟩
    rcases h.out.2 with ⟨e, _⟩ | ⟨g', cap', cur, e, _, hg, _⟩
    · rw [e] at hb; cases hb
    · rw [e] at hb
      cases hb
      rw [Below.heap_alloc wr _ _ hlt.2, hg] at ho
      cases ho; rfl)
  refine ⟨h.below.trans (hf.below h.below.size ?_), hf.rowIs h.lacks ?_, h.users.fr hf ?_ ?_, h.usersB, ⟨qv, hq.keep hf ?_⟩, ?_, hB.1, Nat.le_trans hB.2 hf.size⟩
  · rintro k o' hk ⟨h1, _⟩; omega
  · rintro o' _ ⟨h1, _⟩; omega
  · rintro o' _ ⟨h1, _⟩; omega
  · rintro k hk b o' hb _ ⟨h1, _⟩
    have := h.usersB k hk b hb
    omega
  · rintro k o' ho ⟨_, h2⟩
    rcases ho with ho | ho <;> rw [h2] at ho <;> cases ho
  · have e : intsV (L ++ [x]) = intsV L ++ [.int .i64 (x : Nat)] := by simp [intsV]
    rw [e, List.length_append]
    exact hown

/-- lay's second loop: L is laid, v holds it -/
def Ph2 (nm : Nat → ByteArray) (M : List (List Nat)) (w : World) (n B2 : Nat) (vs : Nat → Value) (L : List Nat) (v : Value) (wr : World) : Prop :=
  ∃ H f, St2 nm w n B2 vs (fun x => Pl.usr M x n) wr f H L v ∧ Pl.Run (ltN nm) M L ∧ Pl.QInv M L H ∧ (∀ j, j < n → f j = Pl.lk M L j) ∧ Pl.HeapTo (ltN nm) H H.length
/-- .. and some of the users of the last one are told -/
def Ph2in (nm : Nat → ByteArray) (M : List (List Nat)) (w : World) (n B2 : Nat) (vs : Nat → Value) (L : List Nat) (v : Value) (rest : List Nat) (wr : World) : Prop :=
  ∃ H f, St2 nm w n B2 vs (fun x => Pl.usr M x n) wr f H L v ∧ Pl.Run (ltN nm) M L ∧ Pl.InInv M L rest f H ∧ Pl.HeapTo (ltN nm) H H.length

theorem ph2_start (hn : n = M.length) (h : Ph1 nm M w n n wr) : ∃ vs, Ph2 nm M w n wr.heap.size vs [] (.slice none 0 0) wr := by
  obtain ⟨H, hs, h1, h2, h3⟩ := h
  obtain ⟨vs, hst⟩ := St2.start hs
  refine ⟨vs, H, _, hst, Pl.Run.nil _ _, Pl.QInv.start M H h1 (fun j => by rw [h2, hn]), fun j hj => ?_, h3⟩
  rw [Pl.lk_nil, if_pos hj]

theorem ph2_end (hs : St2 nm w n B2 vs U wr f [] L v) (hr : Pl.Run (ltN nm) M L) (hi : Pl.QInv M L []) :
    Below w.heap.size w wr ∧ Pl.Done (ltN nm) M L ∧ wr.ownsRow w.heap.size 3 1 v L.length (intsV L) :=
  ⟨hs.below, Pl.Done.of_empty hr hi, hs.out.mono (by have := hs.B2w; omega)⟩

/-- a pop, the thing's box, the result grown: its users are to be told -/
theorem ph2_pop {H' : List Nat} {x : Nat} {w1 w2 : World} {o o1 : Obj} {g cap : Nat} (hn : n = M.length) (hs : St2 nm w n B2 vs (fun x => Pl.usr M x n) wr f H L v) (hr : Pl.Run (ltN nm) M L) (hi : Pl.QInv M L H) (hf : ∀ j, j < n → f j = Pl.lk M L j) (hh : Pl.HeapTo (ltN nm) H H.length)
    (hx : H.getD 0 0 = x) (hp : (x :: H').Perm H) (hfr : Fr (QT w.heap.size) wr w1) {qv : Value} (hq : QAt nm w.heap.size w1 (w.heap.size + 1 + 1 + 1) H' qv) (hh' : Pl.HeapTo (ltN nm) H' H'.length)
    (hown : w2.ownsRow B2 3 1 (.slice (some ⟨g, 0, none⟩) (L.length + 1) cap) (L.length + 1) (intsV L ++ [.int .i64 (x : Nat)]))
    (hgrow : ((w1.alloc o).alloc o1).grownBy w2 v.ownBlock) :
    Ph2in nm M w n B2 vs (L ++ [x]) (.slice (some ⟨g, 0, none⟩) (L.length + 1) cap) (Pl.usr M x n) w2 := by
  have hx' : x ∈ H := hp.mem_iff.1 (by simp)
  have hmin : ∀ y ∈ H, ltN nm y x = false := by
    intro y hy
    obtain ⟨k, hk, rfl⟩ := List.getElem_of_mem hy
    have := Pl.heap_min (ltN_so nm) hh k hk
    have e : H.getD k 0 = H[k] := by simp [List.getD, List.getElem?_eq_getElem hk]
    rw [e, hx] at this
    exact this
  have hs1 := ((hs.queued hfr ⟨qv, hq⟩).alloc o).laid hown hgrow
  refine ⟨H', f, hs1, hr.snoc (hi.pick hx' hmin), ?_, hh'⟩
  rw [hn]
  exact Pl.InInv.start hr hi hp f (fun j hj => hf j (by omega))

theorem ph2_fin (hn : n = M.length) (h : Ph2in nm M w n B2 vs L v [] wr) : Ph2 nm M w n B2 vs L v wr := by
  obtain ⟨H, f, hs, hr, hi, hh⟩ := h
  exact ⟨H, f, hs, hr, hi.finish.1, fun j hj => hi.finish.2 j (by omega), hh⟩

theorem ph2_keep {rest : List Nat} {j m : Nat} (h : St2 nm w n B2 vs (fun x => Pl.usr M x n) wr f H L v) (hr : Pl.Run (ltN nm) M L) (hi : Pl.InInv M L (j :: rest) f H) (hh : Pl.HeapTo (ltN nm) H H.length) (hm : f j - 1 = m) (h0 : m ≠ 0) :
    Ph2in nm M w n B2 vs L v rest (wr.setCell ⟨w.heap.size, j, none⟩ (.int .i64 (m : Nat))) :=
  ⟨H, _, h.setLacks j m, hr, hi.keep (fun k _ => by rw [hm]) (by simpa using h0), hh⟩

theorem ph2_push {rest H' : List Nat} {j m : Nat} {w' : World} (h : St2 nm w n B2 vs (fun x => Pl.usr M x n) wr f H L v) (hr : Pl.Run (ltN nm) M L) (hi : Pl.InInv M L (j :: rest) f H) (hm : f j - 1 = m) (h0 : m = 0)
    (hf : Fr (QT w.heap.size) (wr.setCell ⟨w.heap.size, j, none⟩ (.int .i64 (m : Nat))) w') {qv : Value} (hq : QAt nm w.heap.size w' (w.heap.size + 1 + 1 + 1) H' qv) (hp : H'.Perm (H ++ [j])) (hh : Pl.HeapTo (ltN nm) H' H'.length) :
    Ph2in nm M w n B2 vs L v rest w' :=
  ⟨H', _, (h.setLacks j m).queued hf ⟨qv, hq⟩, hr, hi.push (fun k _ => by rw [hm]) (by simpa using h0) hp, hh⟩

/-- a pop, its thing named -/
def HPop2 (nm : Nat → ByteArray) (B : Nat) (w : World) (qa : Nat) (H : List Nat) (x : Nat) (s : ByteArray) (e : Ending) (w' : World) : Prop :=
  e = .returned (.iface 58 (.agg #[.string s, .int .i64 (x : Nat)])) ∧ Fr (QT B) w w' ∧ ∃ v' H', QAt nm B w' qa H' v' ∧ (x :: H').Perm H ∧ Pl.HeapTo (ltN nm) H' H'.length
theorem hpop_x {B qa x : Nat} {s : ByteArray} (hx : H.getD 0 0 = x) (hs : nm x = s) (h : Calls Try.prog 29 #[.iface 53 (.pointer (some ⟨qa, 0, none⟩))] w (HPopPost nm B w qa H)) : Calls Try.prog 29 #[.iface 53 (.pointer (some ⟨qa, 0, none⟩))] w (HPop2 nm B w qa H x s) := by
  refine h.mono ?_
  rintro e w' ⟨h1, h2, h3⟩
  rw [hx] at h1 h3
  rw [hs] at h1
  exact ⟨h1, h2, h3⟩

theorem cells_of_two {u v : Value} {T : TypeId} (w : World) (w' : World) (h : w'.heap[w.heap.size]? = some (.cells #[u, v] T (0, 0))) : w'.cell? ⟨w.heap.size, 1, none⟩ = some v := by
  rw [cell_of_row w' _ 1 _ _ _ h]; rfl

/-- what is known of users[x] -/
theorem Ph2in.user {rest : List Nat} (h : Ph2in nm M w n B2 vs L v rest wr) {x : Nat} (hx : x < n) :
    ∃ p c, vs x = .slice p (Pl.usr M x n).length c ∧ wr.cell? ⟨w.heap.size + 1, x, none⟩ = some (.slice p (Pl.usr M x n).length c) ∧ (Pl.usr M x n).length ≤ c ∧ c ≤ 9223372036854775807 := by
  obtain ⟨H, f, hs, _⟩ := h
  have h1 := hs.users.row.cell hx
  have h2 := hs.users.own x hx
  rcases h2.2 with ⟨e, h0⟩ | ⟨g, cap, cur, e, _, _, h3, h4, _⟩
  · rw [e] at h1
    refine ⟨none, 0, by rw [e, h0], by rw [h1, h0], by omega, by omega⟩
  · rw [e] at h1
    exact ⟨_, cap, e, h1, h3, by unfold maxLen at h4; exact h4⟩

theorem Ph2in.user_at {rest : List Nat} (h : Ph2in nm M w n B2 vs L v rest wr) {x t : Nat} (hx : x < n) (ht : t < (Pl.usr M x n).length) {p : Option Addr} {c m : Nat} (hv : vs x = .slice p m c) :
    ∃ g, p = some ⟨g, 0, none⟩ ∧ wr.cell? ⟨g, t, none⟩ = some (.int .i64 ((Pl.usr M x n).getD t 0 : Nat)) := by
  obtain ⟨H, f, hs, _⟩ := h
  have h2 := hs.users.own x hx
  rcases h2.2 with ⟨e, h0⟩ | ⟨g, cap, cur, e, _⟩
  · omega
  · have h3 := h2
    rw [e] at h3 hv
    cases hv
    exact ⟨g, rfl, by rw [h3.cellAt t (by omega)]; exact intsV_at _ t ht⟩
end Go.Proofs.Ytnonncjndlcjgaa
