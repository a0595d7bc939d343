/- A heap as a list: what a step up and a step down keep. No program in sight. -/
import Derived.KernelRfl
namespace Go.Proofs.Ytnonncjndlcjgaa.Pl

/-- a strict total order -/
structure SO (lt : Nat → Nat → Bool) : Prop where
  irr : ∀ a, lt a a = false
  tr : ∀ a b c, lt a b = true → lt b c = true → lt a c = true
  tot : ∀ a b, a ≠ b → lt a b = true ∨ lt b a = true

theorem SO.asymm {lt : Nat → Nat → Bool} (h : SO lt) {a b : Nat} (k : lt a b = true) : lt b a = false := by
  cases hb : lt b a with
  | false => rfl
  | true => have := h.tr _ _ _ k hb; rw [h.irr] at this; cases this

/-- 'not above' goes on -/
theorem SO.le_trans {lt : Nat → Nat → Bool} (h : SO lt) {a b c : Nat} (h1 : lt b a = false) (h2 : lt c b = false) : lt c a = false := by
  cases hc : lt c a with
  | false => rfl
  | true =>
    by_cases e : a = b
    · subst e; rw [h2] at hc; cases hc
    · rcases h.tot a b e with k | k
      · have := h.tr _ _ _ hc k; rw [h2] at this; cases this
      · rw [h1] at k; cases k

def sw (H : List Nat) (i j : Nat) : List Nat := (H.set i (H.getD j 0)).set j (H.getD i 0)

@[simp] theorem sw_length (H : List Nat) (i j : Nat) : (sw H i j).length = H.length := by simp [sw]

theorem sw_getD (H : List Nat) (i j k : Nat) (hi : i < H.length) (hj : j < H.length) : (sw H i j).getD k 0 = if k = j then H.getD i 0 else if k = i then H.getD j 0 else H.getD k 0 := by
  unfold sw
  simp only [List.getD, List.getElem?_set, List.length_set]
  by_cases h1 : k = j
  · subst h1; simp [hj]
  · rw [if_neg (Ne.symm h1), if_neg h1]
    by_cases h2 : k = i
    · subst h2; simp [hi]
    · rw [if_neg (Ne.symm h2), if_neg h2]

theorem sw_perm (H : List Nat) (i j : Nat) (hi : i < H.length) (hj : j < H.length) : (sw H i j).Perm H := by
  unfold sw
  have e1 : H.getD j 0 = H[j] := by simp [List.getD, List.getElem?_eq_getElem hj]
  have e2 : H.getD i 0 = H[i] := by simp [List.getD, List.getElem?_eq_getElem hi]
  rw [e1, e2]
  exact List.set_set_perm hi hj

def HeapTo (lt : Nat → Nat → Bool) (H : List Nat) (n : Nat) : Prop := ∀ k, 0 < k → k < n → lt (H.getD k 0) (H.getD ((k - 1) / 2) 0) = false

structure UpInv (lt : Nat → Nat → Bool) (H : List Nat) (j : Nat) : Prop where
  one : ∀ k, 0 < k → k < H.length → k ≠ j → lt (H.getD k 0) (H.getD ((k - 1) / 2) 0) = false
  two : ∀ k, 0 < k → k < H.length → (k - 1) / 2 = j → 0 < j → lt (H.getD k 0) (H.getD ((j - 1) / 2) 0) = false

theorem getD_app_left (H : List Nat) (x k : Nat) (h : k < H.length) : (H ++ [x]).getD k 0 = H.getD k 0 := by
  simp [List.getD, List.getElem?_append_left h]

theorem up_start {lt : Nat → Nat → Bool} {H : List Nat} (x : Nat) (h : HeapTo lt H H.length) : UpInv lt (H ++ [x]) H.length := by
  refine ⟨fun k h0 hk hne => ?_, fun k h0 hk hp _ => ?_⟩
  · simp at hk
    have h1 : k < H.length := by omega
    rw [getD_app_left H x k h1, getD_app_left H x _ (by omega)]
    exact h k h0 h1
  · simp at hk
    omega

theorem up_done {lt : Nat → Nat → Bool} {H : List Nat} {j : Nat} (h : UpInv lt H j) (hj : j = 0 ∨ lt (H.getD j 0) (H.getD ((j - 1) / 2) 0) = false) : HeapTo lt H H.length := by
  intro k h0 hk
  by_cases e : k = j
  · subst e
    rcases hj with hj | hj
    · omega
    · exact hj
  · exact h.one k h0 hk e

theorem up_step {lt : Nat → Nat → Bool} (so : SO lt) {H : List Nat} {j : Nat} (h : UpInv lt H j) (h0 : 0 < j) (hj : j < H.length) (hl : lt (H.getD j 0) (H.getD ((j - 1) / 2) 0) = true) : UpInv lt (sw H ((j - 1) / 2) j) ((j - 1) / 2) := by
  obtain ⟨i, hi⟩ : ∃ i, (j - 1) / 2 = i := ⟨_, rfl⟩
  rw [hi] at hl ⊢
  have hij : i < j := by omega
  have hil : i < H.length := by omega
  refine ⟨fun k k0 hk hne => ?_, fun k k0 hk hp i0 => ?_⟩
  · rw [sw_length] at hk
    rw [sw_getD H i j k hil hj, sw_getD H i j _ hil hj]
    by_cases e : k = j
    · subst e
      rw [if_pos rfl, hi, if_neg (by omega), if_pos rfl]
      exact so.asymm hl
    · rw [if_neg e, if_neg hne]
      by_cases e2 : (k - 1) / 2 = j
      · rw [if_pos e2]
        have := h.two k k0 hk e2 h0
        rw [hi] at this
        exact this
      · rw [if_neg e2]
        by_cases e3 : (k - 1) / 2 = i
        · rw [if_pos e3]
          have h1 := h.one k k0 hk e
          rw [e3] at h1
          cases h2 : lt (H.getD k 0) (H.getD j 0) with
          | false => rfl
          | true => have := so.tr _ _ _ h2 hl; rw [h1] at this; cases this
        · rw [if_neg e3]
          exact h.one k k0 hk e
  · rw [sw_length] at hk
    rw [sw_getD H i j k hil hj, sw_getD H i j _ hil hj]
    rw [if_neg (show ¬ (i - 1) / 2 = j by omega), if_neg (show ¬ (i - 1) / 2 = i by omega)]
    have hi1 := h.one i i0 hil (by omega)
    by_cases e : k = j
    · rw [if_pos e]; exact hi1
    · rw [if_neg e, if_neg (by omega)]
      have h1 := h.one k k0 hk e
      rw [hp] at h1
      exact so.le_trans hi1 h1

structure DnInv (lt : Nat → Nat → Bool) (H : List Nat) (n i : Nat) : Prop where
  one : ∀ k, 0 < k → k < n → (k - 1) / 2 ≠ i → lt (H.getD k 0) (H.getD ((k - 1) / 2) 0) = false
  two : ∀ k, 0 < k → k < n → (k - 1) / 2 = i → 0 < i → lt (H.getD k 0) (H.getD ((i - 1) / 2) 0) = false

theorem dn_start {lt : Nat → Nat → Bool} {H : List Nat} {n : Nat} (hl : H.length = n + 1) (h : HeapTo lt H H.length) : DnInv lt (sw H 0 n) n 0 := by
  refine ⟨fun k k0 hk hp => ?_, fun k k0 hk hp h0 => by omega⟩
  rw [sw_getD H 0 n k (by omega) (by omega), sw_getD H 0 n _ (by omega) (by omega), if_neg (by omega), if_neg (by omega), if_neg (by omega), if_neg hp]
  exact h k k0 (by omega)

theorem dn_none {lt : Nat → Nat → Bool} {H : List Nat} {n i : Nat} (h : DnInv lt H n i) (hc : n ≤ 2 * i + 1) : HeapTo lt H n := by
  intro k k0 hk
  exact h.one k k0 hk (by omega)

/-- c is the child that stands first; the other one isn't below it -/
def Least (lt : Nat → Nat → Bool) (H : List Nat) (n i c : Nat) : Prop := 0 < c ∧ c < n ∧ (c - 1) / 2 = i ∧ ∀ k, 0 < k → k < n → (k - 1) / 2 = i → k ≠ c → lt (H.getD k 0) (H.getD c 0) = false

theorem dn_done {lt : Nat → Nat → Bool} (so : SO lt) {H : List Nat} {n i c : Nat} (h : DnInv lt H n i) (hc : Least lt H n i c) (hl : lt (H.getD c 0) (H.getD i 0) = false) : HeapTo lt H n := by
  intro k k0 hk
  by_cases e : (k - 1) / 2 = i
  · rw [e]
    by_cases e2 : k = c
    · subst e2; exact hl
    · exact so.le_trans hl (hc.2.2.2 k k0 hk e e2)
  · exact h.one k k0 hk e

theorem dn_step {lt : Nat → Nat → Bool} (so : SO lt) {H : List Nat} {n i c : Nat} (hn : n ≤ H.length) (h : DnInv lt H n i) (hc : Least lt H n i c) (hl : lt (H.getD c 0) (H.getD i 0) = true) : DnInv lt (sw H i c) n c := by
  obtain ⟨c0, cn, cp, hother⟩ := hc
  have hil : i < H.length := by omega
  have hcl : c < H.length := by omega
  refine ⟨fun k k0 hk hp => ?_, fun k k0 hk hp _ => ?_⟩
  · rw [sw_getD H i c k hil hcl, sw_getD H i c _ hil hcl, if_neg hp]
    by_cases e : k = c
    · subst e
      rw [if_pos rfl, if_pos cp]
      exact so.asymm hl
    · rw [if_neg e]
      by_cases e2 : k = i
      · rw [if_pos e2, if_neg (by omega)]
        have h2 := h.two c c0 cn cp (by omega)
        rw [show (k - 1) / 2 = (i - 1) / 2 by rw [e2]]
        exact h2
      · rw [if_neg e2]
        by_cases e3 : (k - 1) / 2 = i
        · rw [if_pos e3]; exact hother k k0 hk e3 e
        · rw [if_neg e3]; exact h.one k k0 hk e3
  · rw [sw_getD H i c k hil hcl, sw_getD H i c _ hil hcl, if_neg (by omega), if_neg (by omega), cp, if_neg (by omega), if_pos rfl]
    have := h.one k k0 hk (by omega)
    rw [hp] at this
    exact this

/-- the head of a heap is the least -/
theorem heap_min {lt : Nat → Nat → Bool} (so : SO lt) {H : List Nat} {n : Nat} (h : HeapTo lt H n) : ∀ k, k < n → lt (H.getD k 0) (H.getD 0 0) = false := by
  intro k
  induction k using Nat.strongRecOn with
  | ind k ih =>
    intro hk
    by_cases e : k = 0
    · subst e; exact so.irr _
    · exact so.le_trans (ih ((k - 1) / 2) (by omega) (by omega)) (h k (by omega) hk)
end Go.Proofs.Ytnonncjndlcjgaa.Pl
