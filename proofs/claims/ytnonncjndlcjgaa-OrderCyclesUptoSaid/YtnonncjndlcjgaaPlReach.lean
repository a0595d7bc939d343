/- What one thing needs in all: the least set that holds it and all that its members need. No program in sight. -/
import Derived.Test.YtnonncjndlcjgaaPlLay
namespace Go.Proofs.Ytnonncjndlcjgaa.Pl

def Closed (M : List (List Nat)) (S : Nat → Bool) : Prop := ∀ j, S j = true → ∀ k ∈ M.getD j [], S k = true
structure IsReach (M : List (List Nat)) (a : Nat) (S : Nat → Bool) : Prop where
  self : S a = true
  closed : Closed M S
  least : ∀ T : Nat → Bool, T a = true → Closed M T → ∀ j, S j = true → T j = true

theorem IsReach.unique {M : List (List Nat)} {a : Nat} {S T : Nat → Bool} (h : IsReach M a S) (k : IsReach M a T) : S = T := by
  funext j
  rw [Bool.eq_iff_iff]
  exact ⟨h.least T k.self k.closed j, k.least S h.self h.closed j⟩

def upd (S : Nat → Bool) (x : Nat) : Nat → Bool := fun k => if k = x then true else S k
theorem upd_self (S : Nat → Bool) (x : Nat) : upd S x x = true := by simp [upd]
theorem upd_mono {S : Nat → Bool} {x j : Nat} (h : S j = true) : upd S x j = true := by unfold upd; split <;> simp [h]
theorem upd_iff {S : Nat → Bool} {x j : Nat} : upd S x j = true ↔ j = x ∨ S j = true := by
  unfold upd
  by_cases e : j = x <;> simp [e]

/-- how many aren't in -/
def unseen (S : Nat → Bool) (n : Nat) : Nat := (List.range n).countP (fun j => !S j)
theorem unseen_succ (S : Nat → Bool) (n : Nat) : unseen S (n + 1) = unseen S n + if S n = true then 0 else 1 := by
  unfold unseen
  rw [List.range_succ, List.countP_append]
  cases h : S n <;> simp [h]
theorem unseen_upd_out {S : Nat → Bool} {x : Nat} : ∀ n, n ≤ x → unseen (upd S x) n = unseen S n := by
  intro n
  induction n with
  | zero => intro _; rfl
  | succ n ih =>
    intro h
    have e : upd S x n = S n := by unfold upd; rw [if_neg (by omega)]
    rw [unseen_succ, unseen_succ, ih (by omega), e]
theorem unseen_upd {S : Nat → Bool} {x : Nat} (hx : S x = false) : ∀ n, x < n → unseen (upd S x) n + 1 = unseen S n := by
  intro n
  induction n with
  | zero => intro h; omega
  | succ n ih =>
    intro h
    rw [unseen_succ, unseen_succ]
    by_cases e : x = n
    · subst e
      rw [unseen_upd_out x (Nat.le_refl _), upd_self, hx]
      simp
    · have e2 : upd S x n = S n := by unfold upd; rw [if_neg (by omega)]
      have := ih (by omega)
      rw [e2]
      omega
theorem unseen_none (n : Nat) : unseen (fun _ => false) n = n := by simp [unseen]

/-- on the way: S is seen; of those in A, and of x but for its needs ahead of 'rest', the needs aren't looked at yet -/
structure Bfs (M : List (List Nat)) (a : Nat) (S : Nat → Bool) (A : List Nat) (x : Nat) (rest : List Nat) : Prop where
  self : S a = true
  seen : ∀ j ∈ A, S j = true
  seenx : S x = true
  done : ∀ j, S j = true → j ∉ A → j ≠ x → ∀ k ∈ M.getD j [], S k = true
  part : ∀ k ∈ M.getD x [], k ∈ rest ∨ S k = true
  least : ∀ T : Nat → Bool, T a = true → Closed M T → ∀ j, S j = true → T j = true
  sub : ∀ k ∈ rest, k ∈ M.getD x []

structure Bfs0 (M : List (List Nat)) (a : Nat) (S : Nat → Bool) (A : List Nat) : Prop where
  self : S a = true
  seen : ∀ j ∈ A, S j = true
  done : ∀ j, S j = true → j ∉ A → ∀ k ∈ M.getD j [], S k = true
  least : ∀ T : Nat → Bool, T a = true → Closed M T → ∀ j, S j = true → T j = true

theorem Bfs0.start (M : List (List Nat)) (a : Nat) : Bfs0 M a (upd (fun _ => false) a) [a] := by
  refine ⟨upd_self _ _, fun j hj => ?_, fun j hj hn => ?_, fun T hT _ j hj => ?_⟩
  · simp at hj; subst hj; exact upd_self _ _
  · rcases upd_iff.1 hj with rfl | h
    · simp at hn
    · cases h
  · rcases upd_iff.1 hj with rfl | h
    · exact hT
    · cases h
theorem Bfs0.pop {M : List (List Nat)} {a x : Nat} {S : Nat → Bool} {A : List Nat} (h : Bfs0 M a S (x :: A)) : Bfs M a S A x (M.getD x []) :=
  ⟨h.self, fun j hj => h.seen j (by simp [hj]), h.seen x (by simp), fun j hj hn hne => h.done j hj (by simp [hn, hne]), fun k hk => Or.inl hk, h.least, fun k hk => hk⟩
theorem Bfs.finish {M : List (List Nat)} {a x : Nat} {S : Nat → Bool} {A : List Nat} (h : Bfs M a S A x []) : Bfs0 M a S A := by
  refine ⟨h.self, h.seen, fun j hj hn k hk => ?_, h.least⟩
  by_cases e : j = x
  · subst e
    rcases h.part k hk with h1 | h1
    · cases h1
    · exact h1
  · exact h.done j hj hn e k hk
theorem Bfs.skip {M : List (List Nat)} {a x k : Nat} {S : Nat → Bool} {A rest : List Nat} (h : Bfs M a S A x (k :: rest)) (hk : S k = true) : Bfs M a S A x rest :=
  ⟨h.self, h.seen, h.seenx, h.done, fun y hy => by
    rcases h.part y hy with h1 | h1
    · rcases List.mem_cons.1 h1 with rfl | h2
      · exact Or.inr hk
      · exact Or.inl h2
    · exact Or.inr h1, h.least, fun y hy => h.sub y (by simp [hy])⟩
theorem Bfs.add {M : List (List Nat)} {a x k : Nat} {S : Nat → Bool} {A rest : List Nat} (h : Bfs M a S A x (k :: rest)) (hk : S k = false) : Bfs M a (upd S k) (A ++ [k]) x rest := by
  refine ⟨upd_mono h.self, fun j hj => ?_, upd_mono h.seenx, fun j hj hn hne y hy => ?_, fun y hy => ?_, fun T hT hc j hj => ?_, fun y hy => h.sub y (by simp [hy])⟩
  · rcases List.mem_append.1 hj with h1 | h1
    · exact upd_mono (h.seen j h1)
    · simp at h1; subst h1; exact upd_self _ _
  · simp only [List.mem_append, List.mem_singleton, not_or] at hn
    rcases upd_iff.1 hj with rfl | h1
    · exact absurd rfl hn.2
    · exact upd_mono (h.done j h1 hn.1 hne y hy)
  · rcases h.part y hy with h1 | h1
    · rcases List.mem_cons.1 h1 with rfl | h2
      · exact Or.inr (upd_self _ _)
      · exact Or.inl h2
    · exact Or.inr (upd_mono h1)
  · rcases upd_iff.1 hj with rfl | h1
    · exact hc x (h.least T hT hc x h.seenx) j (h.sub j (by simp))
    · exact h.least T hT hc j h1
theorem Bfs0.reach {M : List (List Nat)} {a : Nat} {S : Nat → Bool} (h : Bfs0 M a S []) : IsReach M a S :=
  ⟨h.self, fun j hj k hk => h.done j hj (by simp) k hk, h.least⟩

/-! ### the reference's way: what is in grows while something new is found -/
structure Grow (M : List (List Nat)) (a : Nat) (S : Nat → Bool) : Prop where
  self : S a = true
  least : ∀ T : Nat → Bool, T a = true → Closed M T → ∀ j, S j = true → T j = true
theorem Grow.start (M : List (List Nat)) (a : Nat) : Grow M a (upd (fun _ => false) a) :=
  ⟨upd_self _ _, fun T hT _ j hj => by
    rcases upd_iff.1 hj with rfl | h
    · exact hT
    · cases h⟩
theorem Grow.add {M : List (List Nat)} {a i k : Nat} {S : Nat → Bool} (h : Grow M a S) (hi : S i = true) (hk : k ∈ M.getD i []) : Grow M a (upd S k) :=
  ⟨upd_mono h.self, fun T hT hc j hj => by
    rcases upd_iff.1 hj with rfl | h1
    · exact hc i (h.least T hT hc i hi) j hk
    · exact h.least T hT hc j h1⟩
end Go.Proofs.Ytnonncjndlcjgaa.Pl
