/- In what order things are laid: the one next is the first, by the order lt, of those whose needs are all laid. No program in sight. -/
import Derived.Test.YtnonncjndlcjgaaPlHeap
namespace Go.Proofs.Ytnonncjndlcjgaa.Pl

/-- may j be laid behind L? -/
def cand (M : List (List Nat)) (L : List Nat) (j : Nat) : Prop := j < M.length ∧ j ∉ L ∧ ∀ k ∈ M.getD j [], k ∈ L
def Pick (lt : Nat → Nat → Bool) (M : List (List Nat)) (L : List Nat) (x : Nat) : Prop := cand M L x ∧ ∀ y, cand M L y → lt y x = false
def Run (lt : Nat → Nat → Bool) (M : List (List Nat)) (L : List Nat) : Prop := ∀ i, i < L.length → Pick lt M (L.take i) (L.getD i 0)
def Done (lt : Nat → Nat → Bool) (M : List (List Nat)) (L : List Nat) : Prop := Run lt M L ∧ ∀ j, ¬ cand M L j

theorem Run.nil (lt : Nat → Nat → Bool) (M : List (List Nat)) : Run lt M [] := fun i hi => absurd hi (by simp)
theorem Run.snoc {lt : Nat → Nat → Bool} {M : List (List Nat)} {L : List Nat} {x : Nat} (h : Run lt M L) (hx : Pick lt M L x) : Run lt M (L ++ [x]) := by
  intro i hi
  simp only [List.length_append, List.length_singleton] at hi
  by_cases e : i = L.length
  · subst e
    have e1 : (L ++ [x]).take L.length = L := by simp
    have e2 : (L ++ [x]).getD L.length 0 = x := by simp [List.getD]
    rw [e1, e2]
    exact hx
  · have hi2 : i < L.length := by omega
    rw [List.take_append_of_le_length (by omega), getD_app_left L x i hi2]
    exact h i hi2

theorem Pick.unique {lt : Nat → Nat → Bool} (so : SO lt) {M : List (List Nat)} {L : List Nat} {x y : Nat} (hx : Pick lt M L x) (hy : Pick lt M L y) : x = y := by
  by_cases e : x = y
  · exact e
  · rcases so.tot x y e with h | h
    · have := hy.2 x hx.1; rw [h] at this; cases this
    · have := hx.2 y hy.1; rw [h] at this; cases this

theorem take_succ_getD (L : List Nat) (i : Nat) (h : i < L.length) : L.take (i + 1) = L.take i ++ [L.getD i 0] := by
  rw [List.take_succ_eq_append_getElem h]
  simp [List.getD, List.getElem?_eq_getElem h]

theorem Run.agree {lt : Nat → Nat → Bool} (so : SO lt) {M : List (List Nat)} {L K : List Nat} (h : Run lt M L) (k : Run lt M K) : ∀ i, i ≤ L.length → i ≤ K.length → L.take i = K.take i := by
  intro i
  induction i with
  | zero => intros; simp
  | succ i ih =>
    intro h1 h2
    have e := ih (by omega) (by omega)
    rw [take_succ_getD L i (by omega), take_succ_getD K i (by omega), e]
    have a := h i (by omega)
    have b := k i (by omega)
    rw [e] at a
    rw [Pick.unique so a b]

theorem Done.unique {lt : Nat → Nat → Bool} (so : SO lt) {M : List (List Nat)} {L K : List Nat} (h : Done lt M L) (k : Done lt M K) : L = K := by
  rcases Nat.lt_trichotomy L.length K.length with c | c | c
  · have e := Run.agree so h.1 k.1 L.length (Nat.le_refl _) (by omega)
    rw [List.take_length] at e
    have a := k.1 L.length c
    rw [← e] at a
    exact absurd a.1 (h.2 _)
  · have e := Run.agree so h.1 k.1 L.length (Nat.le_refl _) (by omega)
    rw [List.take_length, c, List.take_length] at e
    exact e
  · have e := Run.agree so h.1 k.1 K.length (by omega) (Nat.le_refl _)
    rw [List.take_length] at e
    have a := h.1 K.length c
    rw [e] at a
    exact absurd a.1 (k.2 _)

theorem Run.nodup {lt : Nat → Nat → Bool} {M : List (List Nat)} : ∀ (n : Nat) (L : List Nat), L.length = n → Run lt M L → L.Nodup ∧ ∀ j ∈ L, j < M.length := by
  intro n
  induction n with
  | zero => intro L hl _; have : L = [] := List.eq_nil_of_length_eq_zero hl; subst this; simp
  | succ n ih =>
    intro L hl h
    have hs := take_succ_getD L n (by omega)
    have ht : L.take (n + 1) = L := List.take_of_length_le (by omega)
    rw [ht] at hs
    have hr : Run lt M (L.take n) := by
      intro i hi
      simp at hi
      have a := h i (by omega)
      rw [List.take_take, Nat.min_eq_left (by omega)]
      have e : (L.take n).getD i 0 = L.getD i 0 := by
        have hin : i < n := by omega
        simp [List.getD, hin]
      rw [e]; exact a
    obtain ⟨h1, h2⟩ := ih (L.take n) (by simp; omega) hr
    have hp := (h n (by omega)).1
    rw [hs]
    refine ⟨?_, ?_⟩
    · rw [List.nodup_append]
      exact ⟨h1, by simp, fun a ha b hb => by simp at hb; subst hb; intro e; subst e; exact hp.2.1 ha⟩
    · intro j hj
      rcases List.mem_append.1 hj with hj | hj
      · exact h2 j hj
      · simp at hj; subst hj; exact hp.1

/-- what is laid needs nothing that isn't -/
theorem Run.closed {lt : Nat → Nat → Bool} {M : List (List Nat)} {L : List Nat} (h : Run lt M L) : ∀ j ∈ L, ∀ k ∈ M.getD j [], k ∈ L := by
  intro j hj k hk
  obtain ⟨i, hi, rfl⟩ := List.getElem_of_mem hj
  have a := (h i hi).1.2.2
  have e : L.getD i 0 = L[i] := by simp [List.getD, List.getElem?_eq_getElem hi]
  rw [e] at a
  exact List.mem_of_mem_take (a k hk)

/-- how many of j's needs aren't laid -/
def lk (M : List (List Nat)) (L : List Nat) (j : Nat) : Nat := (M.getD j []).countP (fun k => decide (k ∉ L))
/-- who needs x, of the first i things -/
def usr (M : List (List Nat)) (x i : Nat) : List Nat := (List.range i).flatMap fun j => List.replicate ((M.getD j []).count x) j

theorem lk_nil (M : List (List Nat)) (j : Nat) : lk M [] j = (M.getD j []).length := by
  unfold lk
  rw [List.countP_eq_length]
  simp
theorem lk_zero (M : List (List Nat)) (L : List Nat) (j : Nat) : lk M L j = 0 ↔ ∀ k ∈ M.getD j [], k ∈ L := by
  unfold lk
  rw [List.countP_eq_zero]
  simp
theorem count_snoc (l L : List Nat) (x : Nat) (hx : x ∉ L) : l.countP (fun k => decide (k ∉ L)) = l.countP (fun k => decide (k ∉ L ++ [x])) + l.count x := by
  induction l with
  | nil => rfl
  | cons a l ih =>
    rw [List.countP_cons, List.countP_cons, List.count_cons, ih]
    by_cases e : a = x
    · subst e
      simp [hx]
      omega
    · by_cases m : a ∈ L
      · simp [m, e]
      · simp [m, e]
        omega
theorem lk_snoc (M : List (List Nat)) (L : List Nat) (x j : Nat) (hx : x ∉ L) : lk M L j = lk M (L ++ [x]) j + (M.getD j []).count x := count_snoc _ _ _ hx

theorem usr_succ (M : List (List Nat)) (x i : Nat) : usr M x (i + 1) = usr M x i ++ List.replicate ((M.getD i []).count x) i := by
  unfold usr
  rw [List.range_succ, List.flatMap_append]
  simp
theorem usr_mem (M : List (List Nat)) (x : Nat) : ∀ i j, j ∈ usr M x i → j < i ∧ x ∈ M.getD j [] := by
  intro i j h
  unfold usr at h
  obtain ⟨k, hk, hj⟩ := List.mem_flatMap.1 h
  rw [List.mem_replicate] at hj
  rw [List.mem_range] at hk
  obtain ⟨h0, rfl⟩ := hj
  exact ⟨hk, List.count_pos_iff.1 (by omega)⟩
theorem count_usr (M : List (List Nat)) (x : Nat) : ∀ i j, (usr M x i).count j = if j < i then (M.getD j []).count x else 0 := by
  intro i
  induction i with
  | zero => intro j; simp [usr]
  | succ i ih =>
    intro j
    rw [usr_succ, List.count_append, ih, List.count_replicate]
    by_cases e : i = j
    · subst e; simp
    · have e2 : (i == j) = false := by simpa using e
      by_cases h : j < i
      · have h2 : j < i + 1 := by omega
        simp [h, h2, e2]
      · have h2 : ¬ j < i + 1 := by omega
        simp [h, h2, e2]

/-- how many needs -/
def szs (M : List (List Nat)) (i : Nat) : Nat := match i with
  | 0 => 0
  | i + 1 => szs M i + (M.getD i []).length
theorem usr_length (M : List (List Nat)) (x i : Nat) : (usr M x i).length ≤ szs M i := by
  induction i with
  | zero => simp [usr, szs]
  | succ i ih =>
    rw [usr_succ, List.length_append, List.length_replicate]
    have := List.count_le_length (a := x) (l := M.getD i [])
    simp only [szs]
    omega
theorem szs_mono (M : List (List Nat)) {i k : Nat} (h : i ≤ k) : szs M i ≤ szs M k := by
  induction k with
  | zero => have : i = 0 := by omega
            subst this; exact Nat.le_refl _
  | succ k ih =>
    by_cases e : i = k + 1
    · subst e; exact Nat.le_refl _
    · have := ih (by omega)
      simp only [szs]
      omega

/-! ### the queue's things are those that may be laid -/
def QInv (M : List (List Nat)) (L H : List Nat) : Prop := H.Nodup ∧ ∀ j, j ∈ H ↔ cand M L j

/-- between two looks at the queue: the users of x that are still to be told -/
structure InInv (M : List (List Nat)) (L rest : List Nat) (f : Nat → Nat) (H : List Nat) : Prop where
  num : ∀ j, j < M.length → f j = lk M L j + rest.count j
  nodup : H.Nodup
  mem : ∀ j, j ∈ H ↔ cand M L j ∧ rest.count j = 0
  rest : ∀ j ∈ rest, j < M.length ∧ j ∉ L

theorem QInv.start (M : List (List Nat)) (H : List Nat) (h1 : H.Nodup) (h2 : ∀ j, j ∈ H ↔ j < M.length ∧ M.getD j [] = []) : QInv M [] H := by
  refine ⟨h1, fun j => ?_⟩
  rw [h2]
  unfold cand
  constructor
  · rintro ⟨a, b⟩; exact ⟨a, by simp, fun k hk => by rw [b] at hk; cases hk⟩
  · rintro ⟨a, _, c⟩; exact ⟨a, List.eq_nil_iff_forall_not_mem.2 fun k hk => by have := c k hk; cases this⟩

theorem QInv.pick {lt : Nat → Nat → Bool} {M : List (List Nat)} {L H : List Nat} (h : QInv M L H) {x : Nat} (hx : x ∈ H) (hmin : ∀ y ∈ H, lt y x = false) : Pick lt M L x :=
  ⟨(h.2 x).1 hx, fun y hy => hmin y ((h.2 y).2 hy)⟩

theorem InInv.start {lt : Nat → Nat → Bool} {M : List (List Nat)} {L H H' : List Nat} {x : Nat} (hr : Run lt M L) (h : QInv M L H) (hp : (x :: H').Perm H) (f : Nat → Nat) (hf : ∀ j, j < M.length → f j = lk M L j) :
    InInv M (L ++ [x]) (usr M x M.length) f H' := by
  have hx : x ∈ H := hp.mem_iff.1 (by simp)
  have cx := (h.2 x).1 hx
  have hnd : (x :: H').Nodup := hp.nodup_iff.2 h.1
  refine ⟨fun j hj => ?_, hnd.of_cons, fun j => ?_, fun j hj => ?_⟩
  · rw [hf j hj, count_usr, if_pos hj]
    exact lk_snoc M L x j cx.2.1
  · have hm : j ∈ H' ↔ j ∈ H ∧ j ≠ x := by
      rw [← hp.mem_iff]
      constructor
      · intro a; exact ⟨by simp [a], fun e => by subst e; exact (List.nodup_cons.1 hnd).1 a⟩
      · rintro ⟨a, b⟩; simpa [b] using a
    rw [hm, h.2 j, count_usr]
    unfold cand
    constructor
    · rintro ⟨⟨a, b, c⟩, d⟩
      refine ⟨⟨a, by simp [b, d], fun k hk => by simp [c k hk]⟩, ?_⟩
      rw [if_pos a, List.count_eq_zero]
      intro hk
      exact cx.2.1 (c x hk)
    · rintro ⟨⟨a, b, c⟩, d⟩
      rw [if_pos a, List.count_eq_zero] at d
      simp at b
      refine ⟨⟨a, b.1, fun k hk => ?_⟩, b.2⟩
      have := c k hk
      rw [List.mem_append] at this
      rcases this with e | e
      · exact e
      · simp at e; subst e; exact absurd hk d
  · obtain ⟨a, b⟩ := usr_mem M x _ j hj
    refine ⟨a, fun e => ?_⟩
    rw [List.mem_append] at e
    rcases e with e | e
    · exact cx.2.1 (hr.closed j e x b)
    · simp at e; subst e; exact cx.2.1 (cx.2.2 j b)

theorem InInv.finish {M : List (List Nat)} {L : List Nat} {f : Nat → Nat} {H : List Nat} (h : InInv M L [] f H) : QInv M L H ∧ ∀ j, j < M.length → f j = lk M L j :=
  ⟨⟨h.nodup, fun j => by rw [h.mem j]; simp⟩, fun j hj => by rw [h.num j hj]; simp⟩

/-- one user is told, and still lacks something -/
theorem InInv.keep {M : List (List Nat)} {L rest : List Nat} {j : Nat} {f g : Nat → Nat} {H : List Nat} (h : InInv M L (j :: rest) f H) (hg : ∀ k, k < M.length → g k = if k = j then f j - 1 else f k) (h0 : g j ≠ 0) : InInv M L rest g H := by
  have hj := h.rest j (by simp)
  have hn := h.num j hj.1
  rw [List.count_cons_self] at hn
  have hgj := hg j hj.1
  rw [if_pos rfl] at hgj
  refine ⟨fun k hk => ?_, h.nodup, fun k => ?_, fun k hk => h.rest k (by simp [hk])⟩
  · rw [hg k hk]
    by_cases e : k = j
    · subst e; rw [if_pos rfl]; omega
    · rw [if_neg e, h.num k hk, List.count_cons_of_ne (Ne.symm e)]
  · rw [h.mem k]
    by_cases e : k = j
    · subst e
      rw [List.count_cons_self]
      constructor
      · rintro ⟨_, a⟩; omega
      · rintro ⟨a, b⟩
        have := (lk_zero M L k).2 a.2.2
        omega
    · rw [List.count_cons_of_ne (Ne.symm e)]

/-- one user is told, and lacks nothing any more -/
theorem InInv.push {M : List (List Nat)} {L rest : List Nat} {j : Nat} {f g : Nat → Nat} {H H' : List Nat} (h : InInv M L (j :: rest) f H) (hg : ∀ k, k < M.length → g k = if k = j then f j - 1 else f k) (h0 : g j = 0) (hp : H'.Perm (H ++ [j])) : InInv M L rest g H' := by
  have hj := h.rest j (by simp)
  have hn := h.num j hj.1
  rw [List.count_cons_self] at hn
  have hgj := hg j hj.1
  rw [if_pos rfl] at hgj
  have hnot : j ∉ H := by
    rw [h.mem j, List.count_cons_self]
    rintro ⟨_, a⟩
    omega
  have hnd : (H ++ [j]).Nodup := by
    rw [List.nodup_append]
    exact ⟨h.nodup, by simp, fun a ha b hb => by simp at hb; subst hb; intro e; subst e; exact hnot ha⟩
  refine ⟨fun k hk => ?_, hp.nodup_iff.2 hnd, fun k => ?_, fun k hk => h.rest k (by simp [hk])⟩
  · rw [hg k hk]
    by_cases e : k = j
    · subst e; rw [if_pos rfl]; omega
    · rw [if_neg e, h.num k hk, List.count_cons_of_ne (Ne.symm e)]
  · rw [hp.mem_iff, List.mem_append, h.mem k]
    by_cases e : k = j
    · subst e
      simp only [List.mem_singleton, or_true, true_iff]
      exact ⟨⟨hj.1, hj.2, (lk_zero M L k).1 (by omega)⟩, by omega⟩
    · rw [List.count_cons_of_ne (Ne.symm e)]
      simp [e]

/-- at the end: none may be laid -/
theorem Done.of_empty {lt : Nat → Nat → Bool} {M : List (List Nat)} {L : List Nat} (hr : Run lt M L) (h : QInv M L []) : Done lt M L :=
  ⟨hr, fun j hj => by have := (h.2 j).2 hj; cases this⟩
end Go.Proofs.Ytnonncjndlcjgaa.Pl
