/- The reference's ready and lay. -/
import Derived.Test.YtnonncjndlcjgaaLay
namespace Go.Proofs.Ytnonncjndlcjgaa
open Go.RowKit
variable {nm : Nat → ByteArray} {M : List (List Nat)} {w wr : World} {n : Nat} {L : List Nat}

def readyB (L l : List Nat) : Bool := l.all fun k => decide (k ∈ L)
theorem readyB_iff (L l : List Nat) : readyB L l = true ↔ ∀ k ∈ l, k ∈ L := by simp [readyB]
theorem cand_iff (M : List (List Nat)) (L : List Nat) (j : Nat) (hj : j < M.length) : Pl.cand M L j ↔ decide (j ∈ L) = false ∧ readyB L (M.getD j []) = true := by
  rw [readyB_iff]
  simp [Pl.cand, hj]

def flags (L : List Nat) (j : Nat) : Value := .bool (decide (j ∈ L))

set_option maxHeartbeats 1000000 in
theorem ready_any {q : Option Addr} {m c lb : Nat} {l : List Nat} (hl : Nats w q m c l) (hin : ∀ k ∈ l, k < n) (_hn6 : n ≤ 1000000) (hr : w.rowIs lb 4 n (flags L)) :
    Calls Try.prog 30 #[.slice q m c, .slice (some ⟨lb, 0, none⟩) n n] w fun e w' => e = .returned (.bool (readyB L l)) ∧ w = w' := by
  obtain ⟨hm, hmc, hcm, hcells⟩ := hl
  have HC := Lib.hid hcells
  have HM := Lib.hid hm
  have HIN := Lib.hid hin
  have HR := Lib.hid hr
  clear hcells hm hin hr
  go_enter Try.func30, Try.ntmps30
  go_wp2
  go_loop [5] (fun i => ∃ k : Nat, i = .int .i64 k ∧ k ≤ m ∧ ∀ j, j < k → l.getD j 0 ∈ L) (fun i => m - (RowKit.intOf i).toNat)
  case atStart => exact ⟨0, rfl, Nat.zero_le _, fun j hj => absurd hj (by omega)⟩
  case round =>
    obtain ⟨k, rfl, hk, hal⟩ := hrel
    have HAL := Lib.hid hal
    clear hal
    by_cases hlt : k < m
    · have hcs := HC.out
      rcases hcs with h0 | ⟨b, off, rfl, hB, hcells⟩
      · omega
      have hcell := hcells k hlt
      obtain ⟨x, hx⟩ : ∃ x, l.getD k 0 = x := ⟨_, rfl⟩
      have hkl : k < l.length := by have := HM.out; omega
      have hxl : x ∈ l := by rw [← hx]; simp [List.getD, List.getElem?_eq_getElem hkl]
      have hxn := HIN.out x hxl
      have hxi : (x : Int) < (n : Int) := by omega
      rw [hx] at hcell
      have hrc := HR.out.cell hxn
      have hi : (k : Int) < (m : Int) := by omega
      have HX := Lib.hid hx
      have HXL := Lib.hid hxl
      by_cases hxL : x ∈ L
      · have hrc2 : w.cell? ⟨lb, x, none⟩ = some (.bool true) := by rw [hrc]; simp [flags, hxL]
        have HXM := Lib.hid hxL
        clear hcells hrc hx hxl hxL
        go_wp2
        go_round
        case rel => exact ⟨k + 1, by go_num, by omega, fun j hj => by
          rcases Nat.lt_succ_iff_lt_or_eq.1 hj with h | rfl
          · exact HAL.out j h
          · rw [HX.out]; exact HXM.out⟩
        case measure => simp [RowKit.intOf]; omega
      · have hrc2 : w.cell? ⟨lb, x, none⟩ = some (.bool false) := by rw [hrc]; simp [flags, hxL]
        have hres : readyB L l = false := by
          rw [Bool.eq_false_iff]
          intro h
          exact hxL ((readyB_iff L l).1 h x hxl)
        have HRES := Lib.hid hres
        clear hcells hrc hx hxl hxL hres
        go_wp2
        go_ret
        exact ⟨ret_bool (by rw [HRES.out]), rfl⟩
    · have e : k = m := by omega
      subst e
      have hres : readyB L l = true := (readyB_iff L l).2 fun x hx => by
        obtain ⟨j, hj, rfl⟩ := List.getElem_of_mem hx
        have := HAL.out j (by have := HM.out; omega)
        simpa [List.getD, List.getElem?_eq_getElem hj] using this
      have HRES := Lib.hid hres
      clear hres
      go_wp2
      go_ret
      exact ⟨ret_bool (by rw [HRES.out]), rfl⟩

/-- the first of those below i that may be laid; -1: there is none -/
def BestTo (nm : Nat → ByteArray) (M : List (List Nat)) (L : List Nat) (i : Nat) (b : Int) : Prop :=
  (b = -1 ∧ ∀ y, y < i → ¬ Pl.cand M L y) ∨ ∃ x : Nat, b = x ∧ x < i ∧ Pl.cand M L x ∧ ∀ y, y < i → Pl.cand M L y → ltN nm y x = false

theorem BestTo.start (nm : Nat → ByteArray) (M : List (List Nat)) (L : List Nat) : BestTo nm M L 0 (-1) := Or.inl ⟨rfl, fun y hy => absurd hy (by omega)⟩
theorem BestTo.no {i : Nat} {b : Int} (h : BestTo nm M L i b) (hi : ¬ Pl.cand M L i) : BestTo nm M L (i + 1) b := by
  rcases h with ⟨h1, h2⟩ | ⟨x, h1, h2, h3, h4⟩
  · refine Or.inl ⟨h1, fun y hy => ?_⟩
    by_cases e : y = i
    · subst e; exact hi
    · exact h2 y (by omega)
  · refine Or.inr ⟨x, h1, by omega, h3, fun y hy hc => ?_⟩
    by_cases e : y = i
    · subst e; exact absurd hc hi
    · exact h4 y (by omega) hc
theorem BestTo.first {i : Nat} (h : BestTo nm M L i (-1)) (hi : Pl.cand M L i) : BestTo nm M L (i + 1) i := by
  rcases h with ⟨_, h2⟩ | ⟨x, h1, _⟩
  · refine Or.inr ⟨i, rfl, by omega, hi, fun y hy hc => ?_⟩
    by_cases e : y = i
    · subst e; exact (ltN_so nm).irr _
    · exact absurd hc (h2 y (by omega))
  · omega
theorem BestTo.less {i x : Nat} (h : BestTo nm M L i (x : Int)) (hi : Pl.cand M L i) (hl : Op.bytesLess (nm i).toList (nm x).toList = true) : BestTo nm M L (i + 1) i := by
  rcases h with ⟨h1, _⟩ | ⟨x', h1, h2, h3, h4⟩
  · omega
  · have e : x' = x := by omega
    subst e
    have hlt : ltN nm i x' = true := by
      unfold ltN thB
      rw [if_neg]
      · exact hl
      · intro e; rw [e, less_lists] at hl; simp at hl; exact List.lt_irrefl _ hl
    refine Or.inr ⟨i, rfl, by omega, hi, fun y hy hc => ?_⟩
    by_cases e : y = i
    · subst e; exact (ltN_so nm).irr _
    · cases hy2 : ltN nm y i with
      | false => rfl
      | true =>
        have a := (ltN_so nm).tr _ _ _ hy2 hlt
        rw [h4 y (by omega) hc] at a
        cases a
theorem BestTo.notless {i x : Nat} (h : BestTo nm M L i (x : Int)) (hl : Op.bytesLess (nm i).toList (nm x).toList = false) : BestTo nm M L (i + 1) (x : Int) := by
  rcases h with ⟨h1, _⟩ | ⟨x', h1, h2, h3, h4⟩
  · omega
  · have e : x' = x := by omega
    subst e
    refine Or.inr ⟨x', rfl, by omega, h3, fun y hy hc => ?_⟩
    by_cases e : y = i
    · subst e
      unfold ltN thB
      by_cases e2 : (nm y).toList = (nm x').toList
      · rw [if_pos e2]; simp; omega
      · rw [if_neg e2]; exact hl
    · exact h4 y (by omega) hc
theorem BestTo.none {i : Nat} (hi : M.length = i) (h : BestTo nm M L i (-1)) : ∀ j, ¬ Pl.cand M L j := by
  intro j hj
  rcases h with ⟨_, h2⟩ | ⟨x, h1, _⟩
  · exact h2 j (by have := hj.1; omega) hj
  · omega
theorem BestTo.pick {i x : Nat} (hi : M.length = i) (h : BestTo nm M L i (x : Int)) : Pl.Pick (ltN nm) M L x := by
  rcases h with ⟨h1, _⟩ | ⟨x', h1, h2, h3, h4⟩
  · omega
  · have e : x' = x := by omega
    subst e
    exact ⟨h3, fun y hy => h4 y (by have := hy.1; omega) hy⟩
theorem BestTo.shape {i : Nat} {b : Int} (h : BestTo nm M L i b) : b = -1 ∨ ∃ x : Nat, b = x ∧ x < i := by
  rcases h with ⟨h1, _⟩ | ⟨x, h1, h2, _⟩
  · exact Or.inl h1
  · exact Or.inr ⟨x, h1, h2⟩
end Go.Proofs.Ytnonncjndlcjgaa
