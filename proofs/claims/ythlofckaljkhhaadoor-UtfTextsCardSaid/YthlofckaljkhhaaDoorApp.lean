/- append of bytes to a slice of the call's own, whatever the bytes' slice. -/
import Derived.Test.YthlofckaljkhhaaDoorPlain
import Derived.OwnWalk
namespace Go.Proofs.YthlofckaljkhhaaDoor
open Go.RowKit Go.Lib

/-- bytes as cells -/
def bc (l : List UInt8) : List Value := l.map fun b => Value.int .u8 (b.toNat : Int)
theorem bc_length (l : List UInt8) : (bc l).length = l.length := by simp [bc]
theorem bc_append (l r : List UInt8) : bc (l ++ r) = bc l ++ bc r := by simp [bc]

theorem info5 : (Tryd.prog.info? 5).map (fun i => (i.zero, i.size, i.bytes)) = some (some (.int .u8 0), 1, 1) := by kernel_rfl

theorem app_none (w : World) (B : Nat) (v : Value) (n c : Nat) (xs : List Value) (hown : w.ownsRow B 5 1 v n xs) :
    (Builtin.append_ #[22, 22] 22 #[v, .slice none 0 c]).run Tryd.prog w = .ok v w := by
  obtain ⟨i, hi, _, _, _⟩ := info_parts info5
  rcases hown.2 with ⟨rfl, rfl⟩ | ⟨g, cap, cur, rfl, _, _, hnc, _⟩
  · simp [Builtin.append_, run_underlying Tryd.underlying22, sizeOf, typeInfo, hi, Builtin.lenOf, Builtin.firstCells]
  · simp [Builtin.append_, run_underlying Tryd.underlying22, sizeOf, typeInfo, hi, Builtin.lenOf, Builtin.firstCells, hnc, storeCells]

theorem data_get (s : ByteArray) (j : Nat) (u : Value) (h : (bc s.data.toList)[j]? = some u) : j < s.size ∧ u = .int .u8 (s.get! j).toNat := by
  have hj : j < s.data.toList.length := by
    have := (List.getElem?_eq_some_iff.1 h).1
    rw [bc_length] at this
    exact this
  have hj' : j < s.size := by rw [Array.length_toList] at hj; exact hj
  refine ⟨hj', ?_⟩
  have e := get_at s j hj'
  simp only [Nat.add_zero] at e
  rw [e]
  unfold bc at h
  rw [List.getElem?_map, List.getElem?_eq_getElem hj] at h
  simp only [Option.map_some, Option.some.injEq] at h
  rw [← h]
  rfl

theorem app_run (w : World) (B : Nat) (v : Value) (n : Nat) (l : List UInt8) (hown : w.ownsRow B 5 1 v n (bc l)) (p : Option Addr) (m c : Nat) (s : ByteArray) (hS : Byt w p m c s)
    (hB : B ≤ w.heap.size) (hlen : n + m ≤ 140737488355328) :
    ∃ v' w', (Builtin.append_ #[22, 22] 22 #[v, .slice p m c]).run Tryd.prog w = .ok v' w' ∧ w'.ownsRow B 5 1 v' (n + m) (bc (l ++ s.data.toList)) ∧ w.grownBy w' v.ownBlock := by
  obtain ⟨i, hi, hz, hsz, hby⟩ := info_parts info5
  obtain ⟨hm, _, _, h⟩ := hS
  have hsl : s.data.toList.length = m := by rw [hm, Array.length_toList]; rfl
  cases p with
  | none =>
    have h0 : m = 0 := by
      rcases h with h | ⟨b, off, h, _⟩
      · exact h
      · cases h
    subst h0
    have e : s.data.toList = [] := List.eq_nil_of_length_eq_zero hsl
    exact ⟨v, w, app_none w B v n c _ hown, by rw [e, List.append_nil, Nat.add_zero]; exact hown, ⟨rfl, rfl, rfl, Nat.le_refl _, fun _ _ _ => rfl⟩⟩
  | some a =>
    obtain ⟨v', w', h1, h2, h3, _⟩ := run_append_own (P := Tryd.prog) w B 22 22 5 i (.int .u8 0) 1 1 Tryd.underlying22 hi hz hsz hby rfl (by decide) v n (bc l) hown a m c (bc s.data.toList) (by rw [bc_length, hsl, Nat.mul_one])
      (fun j u hj => by
        obtain ⟨hj', rfl⟩ := data_get s j u hj
        rcases h with h | ⟨b, off, h, _, hc⟩
        · omega
        · cases h
          rw [addr_add]
          exact hc j hj')
      (fun u hu => by
        unfold bc at hu
        obtain ⟨x, _, rfl⟩ := List.mem_map.1 hu
        rfl) (by unfold maxLen; omega) (by omega) hB
    exact ⟨v', w', h1, by rw [bc_append]; exact h2, h3⟩

/-- what a slice of the call's own holds, as a slice of bytes -/
theorem byt_own {w : World} {B n : Nat} {v : Value} {l : List UInt8} (hown : w.ownsRow B 5 1 v n (bc l)) : ∃ p c, v = .slice p n c ∧ Byt w p n c ⟨l.toArray⟩ := by
  have hl : l.length = n := by have := hown.1; rw [bc_length, Nat.mul_one] at this; exact this
  rcases hown.2 with ⟨rfl, rfl⟩ | ⟨g, cap, cur, rfl, _, hh, hn, hm, _, ht⟩
  · exact ⟨none, 0, rfl, hl.symm, Nat.le_refl _, by omega, Or.inl rfl⟩
  · unfold maxLen at hm
    refine ⟨_, _, rfl, hl.symm, hn, hm, Or.inr ⟨g, 0, rfl, (Array.getElem?_eq_some_iff.1 hh).1, head_cells hh ?_⟩⟩
    rw [hl]
    simpa [bc] using ht

/-- the empty slice that is written out: a new block of no cell -/
theorem own_empty (w : World) : (w.alloc (.cells #[] 5)).ownsRow w.heap.size 5 1 (.slice (some ⟨w.heap.size, 0, none⟩) 0 0) 0 (bc []) :=
  World.ownsRow_made w #[] 0 (Nat.le_refl _) (by unfold maxLen; omega) rfl

/-- 'append(append([]byte{}, x...), y...)': a new slice that holds both -/
theorem app_two (w : World) (p q : Option Addr) (m k c d : Nat) (s t : ByteArray) (hS : Byt w p m c s) (hT : Byt w q k d t) (hlen : m + k ≤ 140737488355328) :
    ∃ v1 w1 p2 c2 w2, (Builtin.append_ #[22, 22] 22 #[.slice (some ⟨w.heap.size, 0, none⟩) 0 0, .slice p m c]).run Tryd.prog (w.alloc (.cells #[] 5)) = .ok v1 w1 ∧
      (Builtin.append_ #[22, 22] 22 #[v1, .slice q k d]).run Tryd.prog w1 = .ok (.slice p2 (m + k) c2) w2 ∧ Byt w2 p2 (m + k) c2 ⟨(s.data.toList ++ t.data.toList).toArray⟩ ∧ Below w.heap.size w w2 := by
  have hb0 : Below w.heap.size w (w.alloc (.cells #[] 5)) := (Below.refl _ _).alloc (Nat.le_refl _) _
  obtain ⟨v1, w1, h1, ho1, hg1⟩ := app_run (w.alloc (.cells #[] 5)) w.heap.size _ 0 [] (own_empty w) p m c s (hS.below hb0) (by simp) (by omega)
  have hb1 : Below w.heap.size w w1 := hb0.grown hg1 (by simp) (fun j hj => by simp [Value.ownBlock] at hj; omega)
  rw [Nat.zero_add, List.nil_append] at ho1
  obtain ⟨v2, w2, h2, ho2, hg2⟩ := app_run w1 w.heap.size v1 m s.data.toList ho1 q k d t (hT.below hb1) hb1.size hlen
  have hb2 : Below w.heap.size w w2 := hb1.grown hg2 hb1.size (fun j hj => (ho1.lt j hj).1)
  obtain ⟨p2, c2, rfl, hB⟩ := byt_own ho2
  exact ⟨v1, w1, p2, c2, w2, h1, h2, hB, hb2⟩

/-- an append whose run is known -/
theorem wpList_append_run {P : Program} {w w' : World} {v' vs vx : Value} {ops : Array Oper} {rest : List Oper} {o : Oper} {a : Act} {Q : Exit → Act → World → Prop} (s x : Operand) (t : TypeId)
    (hgd : o.guard = none) (ho : o.op = .call { callee := .builtin .append, args := #[s, x], argTypes := #[t, t] }) (hty : o.type = t)
    (hs : a.eval s = vs) (hx : a.eval x = vx) (hrun : (Builtin.append_ #[t, t] t #[vs, vx]).run P w = .ok v' w')
    (h : wpList P ops Q rest (a.put o.dst v') w') : wpList P ops Q (o :: rest) a w := by
  refine wpList_plain hgd fun K hK => ?_
  unfold Oper.wp
  simp [execOp, ho, hty, resolve, invoke, builtin, hs, hx, hrun, Result.andThen]
  exact hK _ _ h
end Go.Proofs.YthlofckaljkhhaaDoor
