/- What is laid, what is stuck, what is reached: the plain laws of OrderBehind, OrderReach and OrderCycles. No program in sight. -/
import Derived.Test.YtnonncjndlcjgaaPlReach
namespace Go.Proofs.Ytnonncjndlcjgaa.Pl
variable {lt lt' : Nat → Nat → Bool} {M : List (List Nat)} {L K : List Nat}

theorem Run.least {T : Nat → Prop} (h : Run lt M L) (hT : ∀ j, j < M.length → (∀ k ∈ M.getD j [], T k) → T j) : ∀ j ∈ L, T j := by
  have key : ∀ i, i ≤ L.length → ∀ j ∈ L.take i, T j := by
    intro i
    induction i with
    | zero => intro _ j hj; simp at hj
    | succ i ih =>
      intro hi j hj
      rw [take_succ_getD L i (by omega)] at hj
      rcases List.mem_append.1 hj with h1 | h1
      · exact ih (by omega) j h1
      · have e := List.mem_singleton.1 h1
        have hp := (h i (by omega)).1
        rw [e]
        exact hT _ hp.1 (fun k hk => ih (by omega) k (hp.2.2 k hk))
  intro j hj
  exact key L.length (Nat.le_refl _) j (by rwa [List.take_length])

/-- what is laid does not depend on the order -/
theorem Done.sub (h : Run lt M L) (k : Done lt' M K) : ∀ j ∈ L, j ∈ K :=
  h.least fun j hj hk => Classical.byContradiction fun hn => k.2 j ⟨hj, hn, hk⟩
theorem Done.same (h : Done lt M L) (k : Done lt' M K) (j : Nat) : j ∈ L ↔ j ∈ K := ⟨Done.sub h.1 k j, Done.sub k.1 h j⟩

theorem full_all {n : Nat} (hd : L.Nodup) (hb : ∀ j ∈ L, j < n) (hl : n ≤ L.length) : ∀ j, j < n → j ∈ L := by
  intro j hj
  apply Classical.byContradiction
  intro hn
  have hnd : (j :: L).Nodup := List.nodup_cons.2 ⟨hn, hd⟩
  have := hnd.length_le_of_subset (l₂ := List.range n) (fun k hk => by
    rcases List.mem_cons.1 hk with rfl | h
    · exact List.mem_range.2 hj
    · exact List.mem_range.2 (hb k h))
  simp at this
  omega
theorem all_full {n : Nat} (h : ∀ j, j < n → j ∈ L) : n ≤ L.length := by
  have := (List.nodup_range (n := n)).length_le_of_subset (l₂ := L) (fun k hk => h k (List.mem_range.1 hk))
  simpa using this

/-- none is stuck just if all are laid -/
theorem stuck_none {n : Nat} (hn : n = M.length) (h : Done lt M L) (k : Done lt' M K) : ((List.range n).filter (fun j => decide (j ∉ K))).length = 0 ↔ n ≤ L.length := by
  subst hn
  have hnd := Run.nodup _ L rfl h.1
  constructor
  · intro e
    refine all_full fun j hj => (h.same k j).2 (Classical.byContradiction fun hn => ?_)
    have : j ∈ (List.range M.length).filter (fun j => decide (j ∉ K)) := List.mem_filter.2 ⟨List.mem_range.2 hj, by simpa using hn⟩
    rw [List.eq_nil_of_length_eq_zero e] at this
    cases this
  · intro e
    have ha := full_all hnd.1 hnd.2 e
    have : (List.range M.length).filter (fun j => decide (j ∉ K)) = [] := by
      rw [List.filter_eq_nil_iff]
      intro j hj
      simpa using (h.same k j).1 (ha j (List.mem_range.1 hj))
    rw [this]
    rfl

theorem take_mem {i t : Nat} (h : i < t) (ht : i < L.length) : L.getD i 0 ∈ L.take t := by
  have e : L.getD i 0 = L[i] := by simp [List.getD, List.getElem?_eq_getElem ht]
  rw [e, List.mem_take_iff_getElem]
  exact ⟨i, by omega, rfl⟩
theorem mem_take_get {k t : Nat} (h : k ∈ L.take t) : ∃ i, i < t ∧ i < L.length ∧ L.getD i 0 = k := by
  obtain ⟨i, hi, e⟩ := List.mem_take_iff_getElem.1 h
  exact ⟨i, by omega, by omega, by simp [List.getD, List.getElem?_eq_getElem (show i < L.length by omega), e]⟩

theorem Run.fresh (h : Run lt M L) {t : Nat} (ht : t < L.length) : L.getD t 0 ∉ L.take t ∧ L.getD t 0 < M.length := ⟨(h t ht).1.2.1, (h t ht).1.1⟩

/-- f tells where each of the first t stands -/
def Stands (L : List Nat) (t : Nat) (f : Nat → Nat) : Prop := ∀ i, i < t → f (L.getD i 0) = i
theorem Stands.step {t : Nat} {f : Nat → Nat} (h : Stands L t f) (hr : Run lt M L) (ht : t < L.length) : Stands L (t + 1) (fun k => if k = L.getD t 0 then t else f k) := by
  intro i hi
  by_cases e : i = t
  · subst e; simp
  · have hne : L.getD i 0 ≠ L.getD t 0 := fun e2 => (hr.fresh ht).1 (e2 ▸ take_mem (by omega) (by omega))
    simp only [if_neg hne]
    exact h i (by omega)
theorem Stands.behind {f : Nat → Nat} (h : Stands L L.length f) (hr : Run lt M L) {j k : Nat} (hj : j ∈ L) (hk : k ∈ M.getD j []) : f k < f j := by
  obtain ⟨i, hi, e⟩ := List.getElem_of_mem hj
  have e2 : L.getD i 0 = j := by rw [← e]; simp [List.getD, List.getElem?_eq_getElem hi]
  have hp := (hr i hi).1.2.2 k (by rw [e2]; exact hk)
  obtain ⟨i', h1, h2, h3⟩ := mem_take_get hp
  rw [← e2, ← h3, h i hi, h i' h2]
  exact h1

/-! ### what one reaches -/
theorem filt_lt {S : Nat → Bool} {n i k : Nat} (h : i < k) (hk : k < ((List.range n).filter S).length) : ((List.range n).filter S).getD i 0 < ((List.range n).filter S).getD k 0 := by
  have hp := (List.pairwise_lt_range (n := n)).filter S
  have := List.pairwise_iff_getElem.1 hp i k (by omega) hk h
  simpa [List.getD, List.getElem?_eq_getElem hk, List.getElem?_eq_getElem (show i < ((List.range n).filter S).length by omega)] using this

theorem IsReach.lonely {a n : Nat} {S : Nat → Bool} (h : IsReach M a S) (hn : M.getD a [] = []) (ha : a < n) : ((List.range n).filter S).length = 1 := by
  have hS : ∀ j, S j = true → j = a := fun j hj => by
    have := h.least (fun k => decide (k = a)) (by simp) (fun i hi k hk => by
      simp at hi; subst hi; rw [hn] at hk; cases hk) j hj
    simpa using this
  have hm : a ∈ (List.range n).filter S := List.mem_filter.2 ⟨List.mem_range.2 ha, h.self⟩
  have hpos : 0 < ((List.range n).filter S).length := List.length_pos_of_mem hm
  by_cases h1 : 1 < ((List.range n).filter S).length
  · have hlt := filt_lt (S := S) (n := n) (i := 0) (k := 1) (by omega) h1
    have g : ∀ i, i < ((List.range n).filter S).length → ((List.range n).filter S).getD i 0 = a := fun i hi => by
      have : ((List.range n).filter S).getD i 0 ∈ (List.range n).filter S := by
        simp only [List.getD, List.getElem?_eq_getElem hi, Option.getD_some]
        exact List.getElem_mem hi
      exact hS _ (List.mem_filter.1 this).2
    rw [g 0 hpos, g 1 h1] at hlt
    omega
  · omega

/-- one that is stuck needs one that is -/
theorem Done.stuck_needs (h : Done lt M L) {x : Nat} (hx : x < M.length) (hn : x ∉ L) : ∃ y, y ∈ M.getD x [] ∧ y ∉ L := by
  apply Classical.byContradiction
  intro hc
  refine h.2 x ⟨hx, hn, fun k hk => Classical.byContradiction fun hkn => hc ⟨k, hk, hkn⟩⟩

inductive To (M : List (List Nat)) (a : Nat) : Nat → Prop
  | self : To M a a
  | step {j k : Nat} : To M a j → k ∈ M.getD j [] → To M a k
theorem To.trans {a b c : Nat} (h : To M a b) (k : To M b c) : To M a c := by
  induction k with
  | self => exact h
  | step _ hk ih => exact .step ih hk
theorem IsReach.to {a : Nat} {S : Nat → Bool} (h : IsReach M a S) (j : Nat) : S j = true ↔ To M a j := by
  constructor
  · intro hj
    have := h.least (fun k => @decide (To M a k) (Classical.propDecidable _)) (by simpa using To.self) (fun i hi k hk => by
      simp at hi ⊢; exact .step hi hk) j hj
    simpa using this
  · intro hj
    induction hj with
    | self => exact h.self
    | step _ hk ih => exact h.closed _ ih _ hk
noncomputable def toB (M : List (List Nat)) (a : Nat) : Nat → Bool := fun k => @decide (To M a k) (Classical.propDecidable _)
theorem toB_iff {a k : Nat} : toB M a k = true ↔ To M a k := by unfold toB; simp

/-- how many of the first n one reaches -/
noncomputable def far (M : List (List Nat)) (n a : Nat) : Nat := (List.range n).countP (toB M a)
theorem far_lt {n a b : Nat} (ha : a < n) (h : ∀ k, To M b k → To M a k) (hn : ¬ To M b a) : far M n b < far M n a := by
  have key : ∀ m, (List.range m).countP (toB M b) + (if a < m then 1 else 0) ≤ (List.range m).countP (toB M a) := by
    intro m
    induction m with
    | zero => simp
    | succ m ih =>
      rw [List.range_succ, List.countP_append, List.countP_append]
      have e : ∀ S : Nat → Bool, List.countP S [m] = if S m = true then 1 else 0 := fun S => by cases hS : S m <;> simp [hS]
      rw [e, e]
      by_cases hm : a = m
      · subst hm
        have h1 : ¬ toB M b a = true := fun h => hn (toB_iff.1 h)
        have h2 : toB M a a = true := toB_iff.2 .self
        rw [if_neg h1, if_pos h2]
        rw [if_neg (by omega)] at ih
        rw [if_pos (by omega)]
        omega
      · have h3 : (if a < m + 1 then 1 else 0) = (if a < m then 1 else 0) := by
          by_cases h4 : a < m
          · rw [if_pos h4, if_pos (by omega)]
          · rw [if_neg h4, if_neg (by omega)]
        rw [h3]
        by_cases h5 : toB M b m = true
        · have h6 : toB M a m = true := toB_iff.2 (h m (toB_iff.1 h5))
          rw [if_pos h5, if_pos h6]
          omega
        · rw [if_neg h5]
          omega
  have := key n
  rw [if_pos ha] at this
  unfold far
  omega

/-- one that is stuck needs, itself or by others, one that needs itself -/
theorem Done.cycle (h : Done lt M L) (hin : ∀ j k, k ∈ M.getD j [] → k < M.length) {x : Nat} (hx : x < M.length) (hn : x ∉ L) : ∃ y z, To M x y ∧ z ∈ M.getD y [] ∧ To M z y := by
  have key : ∀ m a, far M M.length a ≤ m → a < M.length → a ∉ L → ∃ y z, To M a y ∧ z ∈ M.getD y [] ∧ To M z y := by
    intro m
    induction m with
    | zero =>
      intro a hm ha hn
      obtain ⟨y, h1, h2⟩ := h.stuck_needs ha hn
      by_cases hc : To M y a
      · exact ⟨a, y, .self, h1, hc⟩
      · have := far_lt (M := M) (n := M.length) ha (fun k hk => (To.step .self h1).trans hk) hc
        omega
    | succ m ih =>
      intro a hm ha hn
      obtain ⟨y, h1, h2⟩ := h.stuck_needs ha hn
      by_cases hc : To M y a
      · exact ⟨a, y, .self, h1, hc⟩
      · have := far_lt (M := M) (n := M.length) ha (fun k hk => (To.step .self h1).trans hk) hc
        obtain ⟨y', z, h3, h4, h5⟩ := ih y (by omega) (hin _ _ h1) h2
        exact ⟨y', z, (To.step .self h1).trans h3, h4, h5⟩
  exact key _ x (Nat.le_refl _) hx hn

/-- with its needs taken away it isn't stuck -/
theorem Done.freed {x : Nat} (hx : x < M.length) (h : Done lt (M.set x []) L) : x ∈ L := by
  apply Classical.byContradiction
  intro hn
  refine h.2 x ⟨by simpa using hx, hn, fun k hk => ?_⟩
  have e : (M.set x []).getD x [] = [] := by simp [List.getD, hx]
  rw [e] at hk
  cases hk
end Go.Proofs.Ytnonncjndlcjgaa.Pl
