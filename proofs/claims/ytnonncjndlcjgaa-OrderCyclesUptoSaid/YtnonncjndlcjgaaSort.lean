/- order.Sort, the reference's Sort. -/
import Derived.Test.YtnonncjndlcjgaaOright
import Derived.Test.YtnonncjndlcjgaaRlay
namespace Go.Proofs.Ytnonncjndlcjgaa
open Go.RowKit
variable {w : World} {n : Nat} {N : List (List Int)}

/-- the needs, as numbers of things -/
def natM (N : List (List Int)) : List (List Nat) := N.map fun l => l.map Int.toNat
@[simp] theorem natM_length (N : List (List Int)) : (natM N).length = N.length := by simp [natM]
theorem natM_getD (N : List (List Int)) (j : Nat) : (natM N).getD j [] = (N.getD j []).map Int.toNat := by
  unfold natM
  by_cases h : j < N.length
  · simp [List.getD, List.getElem?_eq_getElem h]
  · simp [List.getD, List.getElem?_eq_none (Nat.le_of_not_lt h)]

theorem right_row (hr : rightB N = true) {j : Nat} {x : Int} (hx : x ∈ N.getD j []) : 0 ≤ x ∧ x < N.length := by
  by_cases h : j < N.length
  · obtain ⟨i, hi, rfl⟩ := List.getElem_of_mem hx
    have h1 := (rightB_iff N).1 hr j h i hi
    have e : ∀ l : List Int, (hl : i < l.length) → l.getD i 0 = l[i] := fun l hl => by simp [List.getD, List.getElem?_eq_getElem hl]
    rw [e _ hi] at h1
    simpa [inR] using h1
  · have e : N.getD j [] = [] := by simp [List.getD, List.getElem?_eq_none (Nat.le_of_not_lt h)]
    rw [e] at hx
    cases hx

theorem natM_in (hr : rightB N = true) : ∀ j k, k ∈ (natM N).getD j [] → k < (natM N).length := by
  intro j k hk
  rw [natM_getD] at hk
  obtain ⟨x, hx, rfl⟩ := List.mem_map.1 hk
  have := right_row hr hx
  rw [natM_length]
  omega

theorem nats_of {p : Option Addr} {m c : Nat} {zs : List Int} (h : Ints w p m c zs) (h0 : ∀ x ∈ zs, 0 ≤ x) : Nats w p m c (zs.map Int.toNat) := by
  obtain ⟨h1, h2, h3, h4⟩ := h
  refine ⟨by simpa using h1, h2, h3, ?_⟩
  rcases h4 with h4 | ⟨b, off, hp, hB, hc⟩
  · exact Or.inl h4
  · refine Or.inr ⟨b, off, hp, hB, fun j hj => ?_⟩
    rw [hc j hj]
    have hjl : j < zs.length := by omega
    have e1 : zs.getD j 0 = zs[j] := by simp [List.getD, List.getElem?_eq_getElem hjl]
    have e2 : (zs.map Int.toNat).getD j 0 = zs[j].toNat := by simp [List.getD, List.getElem?_eq_getElem hjl]
    have := h0 _ (List.getElem_mem hjl)
    rw [e1, e2]
    congr 2
    omega

theorem needsN_of {p : Option Addr} {n c : Nat} (h : Needs w p n c N) (hr : rightB N = true) : NeedsN w p n c (natM N) := by
  obtain ⟨h1, h2, h3, h4⟩ := h
  refine ⟨by simpa using h1, h2, h3, ?_⟩
  rcases h4 with h4 | ⟨b, off, hp, hB, hc⟩
  · exact Or.inl h4
  · refine Or.inr ⟨b, off, hp, hB, fun j hj => ?_⟩
    obtain ⟨q, m, c, h5, h6⟩ := hc j hj
    exact ⟨q, m, c, h5, by rw [natM_getD]; exact nats_of h6 (fun x hx => (right_row hr hx).1)⟩

/-- a slice that the call owns, read as ints -/
theorem ints_of_own {base : Nat} {v : Value} {R : List Nat} (h : w.ownsRow base 3 1 v R.length (intsV R)) : ∃ p c, v = .slice p R.length c ∧ Ints w p R.length c (R.map Int.ofNat) := by
  rcases h.2 with ⟨e, h0⟩ | ⟨g, cap, cur, e, hb, hg, h1, h2, h3, h4⟩
  · exact ⟨none, 0, by rw [e, h0], by simp, by omega, by omega, Or.inl h0⟩
  · refine ⟨_, cap, e, by simp, h1, by unfold maxLen at h2; exact h2, Or.inr ⟨g, 0, rfl, (Array.getElem?_eq_some_iff.1 hg).1, fun j hj => ?_⟩⟩
    rw [e] at h
    rw [h.cellAt _ (by omega), Nat.zero_add, intsV_at _ _ hj]
    simp [List.getD, List.getElem?_eq_getElem hj]

/-- what Sort answers: the order and the reason why there is none -/
def SortSpec (nm : Nat → ByteArray) (ns : Nat) (N : List (List Int)) (R : List Nat) (c : Int) : Prop :=
  (ns ≠ N.length ∧ R = [] ∧ c = 2) ∨ (ns = N.length ∧ rightB N = false ∧ R = [] ∧ c = 3) ∨
  (ns = N.length ∧ rightB N = true ∧ ∃ L, Pl.Done (ltN nm) (natM N) L ∧ ((L.length < N.length ∧ R = [] ∧ c = 16) ∨ (N.length ≤ L.length ∧ R = L ∧ c = 0)))

theorem SortSpec.unique {nm : Nat → ByteArray} {ns : Nat} {R R' : List Nat} {c c' : Int} (h : SortSpec nm ns N R c) (k : SortSpec nm ns N R' c') : R = R' ∧ c = c' := by
  rcases h with ⟨h1, rfl, rfl⟩ | ⟨h1, h2, rfl, rfl⟩ | ⟨h1, h2, L, hL, h3⟩
  · rcases k with ⟨_, rfl, rfl⟩ | ⟨k1, _⟩ | ⟨k1, _⟩
    · exact ⟨rfl, rfl⟩
    · exact absurd k1 h1
    · exact absurd k1 h1
  · rcases k with ⟨k1, _⟩ | ⟨_, _, rfl, rfl⟩ | ⟨_, k2, _⟩
    · exact absurd h1 k1
    · exact ⟨rfl, rfl⟩
    · rw [h2] at k2; cases k2
  · rcases k with ⟨k1, _⟩ | ⟨_, k2, _⟩ | ⟨_, _, K, hK, k3⟩
    · exact absurd h1 k1
    · rw [h2] at k2; cases k2
    · have e := Pl.Done.unique (ltN_so nm) hL hK
      subst e
      rcases h3 with ⟨a, rfl, rfl⟩ | ⟨a, rfl, rfl⟩ <;> rcases k3 with ⟨b, rfl, rfl⟩ | ⟨b, rfl, rfl⟩
      · exact ⟨rfl, rfl⟩
      · omega
      · omega
      · exact ⟨rfl, rfl⟩

def SortPost (nm : Nat → ByteArray) (ns : Nat) (N : List (List Int)) (w : World) (e : Ending) (w' : World) : Prop :=
  Below w.heap.size w w' ∧ ∃ R c v, SortSpec nm ns N R c ∧ e = .returned (.tuple #[v, .int .i64 c]) ∧ w'.ownsRow w.heap.size 3 1 v R.length (intsV R)

theorem strs_cells {p : Option Addr} {n c : Nat} {ss : List ByteArray} (h : Strs w p n c ss) : n ≤ c ∧ c ≤ 9223372036854775807 ∧ (n = 0 ∨ ∃ b off, p = some ⟨b, off, none⟩ ∧ b < w.heap.size ∧ ∀ j, j < n → w.cell? ⟨b, off + j, none⟩ = some (.string ((fun i => ss.getD i ByteArray.empty) j))) := h.2

set_option maxHeartbeats 2000000 in
theorem sort_any {ps pn : Option Addr} {ns cs nn cn : Nat} {ss : List ByteArray} (hnames : Strs w ps ns cs ss) (hneeds : Needs w pn nn cn N) (hsz : ns = nn → nn + Pl.szs (natM N) nn ≤ 1000000) :
    Calls Try.prog 11 #[.slice ps ns cs, .slice pn nn cn] w (SortPost (fun i => ss.getD i ByteArray.empty) ns N w) := by
  obtain ⟨nm, hnm⟩ : ∃ nm : Nat → ByteArray, (fun i => ss.getD i ByteArray.empty) = nm := ⟨_, rfl⟩
  have hnl := hneeds.1
  have hcc := strs_cells hnames
  rw [hnm] at hcc ⊢
  by_cases hne : ns = nn
  · subst hne
    have hne' : ((ns : Int) != (ns : Int)) = false := by simp
    obtain ⟨r, hr⟩ : ∃ r, rightB N = r := ⟨_, rfl⟩
    have C1 := oright_any hneeds
    rw [hr] at C1
    have RC := Lib.hid C1
    cases r with
    | false =>
      have SP : Hid (SortSpec nm ns N [] 3) := Lib.hid (Or.inr (Or.inl ⟨hnl, hr, rfl, rfl⟩))
      clear hnames hneeds hnl hcc hr C1 hsz hnm
      go_enter Try.func11, Try.ntmps11
      go_wp2_with (go_at_call 19; refine RC.out.mono ?_; rintro e w1 ⟨rfl, hb1⟩)
      go_ret2
      exact ⟨hb1, [], 3, _, SP.out, rfl, World.ownsRow_nil _ _ _ _⟩
    | true =>
      have hsz' := hsz rfl
      have HL : Hid (∀ w1, Below w.heap.size w w1 → Calls Try.prog 20 #[.slice ps ns cs, .slice pn ns cn] w1 (LayPost nm (natM N) w1)) := Lib.hid fun w1 hb => by
        have h1 := needsN_of (hneeds.below hb) hr
        refine lay_any h1 hcc.1 hcc.2.1 ?_ (natM_in hr) ?_
        · rcases hcc.2.2 with h0 | ⟨b, off, hp, hB, hc⟩
          · exact Or.inl h0
          · exact Or.inr ⟨b, off, hp, Nat.lt_of_lt_of_le hB hb.size, fun j hj => by rw [hb.cell (by exact hB)]; exact hc j hj⟩
        · rw [natM_length, ← hnl]; exact hsz'
      have HSP : Hid (∀ L, Pl.Done (ltN nm) (natM N) L → (L.length < ns → SortSpec nm ns N [] 16) ∧ (ns ≤ L.length → SortSpec nm ns N L 0)) := Lib.hid fun L hL =>
        ⟨fun hlt => Or.inr (Or.inr ⟨hnl, hr, L, hL, Or.inl ⟨by omega, rfl, rfl⟩⟩), fun hle => Or.inr (Or.inr ⟨hnl, hr, L, hL, Or.inr ⟨by omega, rfl, rfl⟩⟩)⟩
      clear hnames hneeds hnl hcc hr C1 hsz hsz' hnm
      go_enter Try.func11, Try.ntmps11
      go_wp2_with (go_at_call 19; refine RC.out.mono ?_; rintro e w1 ⟨rfl, hb1⟩)
      refine (HL.out _ hb1).mono ?_
      rintro e w2 ⟨hb2, L, v, rfl, hd, hown⟩
      have HB : Hid (Below w.heap.size w w2) := Lib.hid (hb1.trans (hb2.mono hb1.size))
      have HO : Hid (w2.ownsRow w.heap.size 3 1 v L.length (intsV L)) := Lib.hid (hown.mono hb1.size)
      have S := HSP.out L hd
      obtain ⟨p, c, hv, hi⟩ := ints_of_own hown
      subst hv
      obtain ⟨m, hm⟩ : ∃ m, L.length = m := ⟨_, rfl⟩
      rw [hm] at HO S ⊢
      have HM := Lib.hid hm
      clear hb1 hb2 hown hd hi hm
      by_cases hlt : m < ns
      · have SP := Lib.hid (S.1 hlt)
        have hlt' : (m : Int) < (ns : Int) := by omega
        clear S
        go_wp2
        go_ret2
        exact ⟨HB.out, [], 16, _, SP.out, rfl, World.ownsRow_nil _ _ _ _⟩
      · have SP := Lib.hid (S.2 (by omega))
        have hlt' : (ns : Int) ≤ (m : Int) := by omega
        clear S
        go_wp2
        go_ret2
        exact ⟨HB.out, L, 0, _, SP.out, rfl, by rw [HM.out]; exact HO.out⟩
  · have hne' : ((ns : Int) != (nn : Int)) = true := by rw [bne_iff_ne]; omega
    have SP : Hid (SortSpec nm ns N [] 2) := Lib.hid (Or.inl ⟨by omega, rfl, rfl⟩)
    clear hnames hneeds hnl hcc hsz hnm
    go_enter Try.func11, Try.ntmps11
    go_wp2
    go_ret2
    exact ⟨Below.refl _ _, [], 2, _, SP.out, rfl, World.ownsRow_nil _ _ _ _⟩

set_option maxHeartbeats 2000000 in
theorem rsort_any {ps pn : Option Addr} {ns cs nn cn : Nat} {ss : List ByteArray} (hnames : Strs w ps ns cs ss) (hneeds : Needs w pn nn cn N) (hsz : ns = nn → nn ≤ 1000000) :
    Calls Try.prog 12 #[.slice ps ns cs, .slice pn nn cn] w (SortPost (fun i => ss.getD i ByteArray.empty) ns N w) := by
  obtain ⟨nm, hnm⟩ : ∃ nm : Nat → ByteArray, (fun i => ss.getD i ByteArray.empty) = nm := ⟨_, rfl⟩
  have hnl := hneeds.1
  have hcc := strs_cells hnames
  rw [hnm] at hcc ⊢
  by_cases hne : ns = nn
  · subst hne
    have hne' : ((ns : Int) != (ns : Int)) = false := by simp
    obtain ⟨r, hr⟩ : ∃ r, rightB N = r := ⟨_, rfl⟩
    have C1 := rright_any hneeds
    rw [hr] at C1
    have RC := Lib.hid C1
    cases r with
    | false =>
      have SP : Hid (SortSpec nm ns N [] 3) := Lib.hid (Or.inr (Or.inl ⟨hnl, hr, rfl, rfl⟩))
      clear hnames hneeds hnl hcc hr C1 hsz hnm
      go_enter Try.func12, Try.ntmps12
      go_wp2_with (go_at_call 14; refine RC.out.mono ?_; rintro e w1 ⟨rfl, rfl⟩)
      go_ret2
      exact ⟨Below.refl _ _, [], 3, _, SP.out, rfl, World.ownsRow_nil _ _ _ _⟩
    | true =>
      have hsz' := hsz rfl
      have HL : Hid (Calls Try.prog 21 #[.slice ps ns cs, .slice pn ns cn] w (RLayPost nm (natM N) w ns)) := Lib.hid (rlay_any (needsN_of hneeds hr) hcc.1 hcc.2.1 hcc.2.2 (natM_in hr) hsz')
      have HSP : Hid (∀ L, Pl.Done (ltN nm) (natM N) L → (L.length < ns → SortSpec nm ns N [] 16) ∧ (ns ≤ L.length → SortSpec nm ns N L 0)) := Lib.hid fun L hL =>
        ⟨fun hlt => Or.inr (Or.inr ⟨hnl, hr, L, hL, Or.inl ⟨by omega, rfl, rfl⟩⟩), fun hle => Or.inr (Or.inr ⟨hnl, hr, L, hL, Or.inr ⟨by omega, rfl, rfl⟩⟩)⟩
      clear hnames hneeds hnl hcc hr C1 hsz hsz' hnm
      go_enter Try.func12, Try.ntmps12
      go_wp2_with (go_at_call 14; refine RC.out.mono ?_; rintro e w1 ⟨rfl, rfl⟩)
      refine HL.out.mono ?_
      rintro e w2 ⟨hb2, L, v, rfl, hd, hown, _⟩
      have HB : Hid (Below w.heap.size w w2) := Lib.hid hb2
      have HO : Hid (w2.ownsRow w.heap.size 3 1 v L.length (intsV L)) := Lib.hid (hown.mono (by omega))
      have S := HSP.out L hd
      obtain ⟨p, c, hv, hi⟩ := ints_of_own hown
      subst hv
      obtain ⟨m, hm⟩ : ∃ m, L.length = m := ⟨_, rfl⟩
      rw [hm] at HO S ⊢
      have HM := Lib.hid hm
      clear hb2 hown hd hi hm
      by_cases hlt : m < ns
      · have SP := Lib.hid (S.1 hlt)
        have hlt' : (m : Int) < (ns : Int) := by omega
        clear S
        go_wp2
        go_ret2
        exact ⟨HB.out, [], 16, _, SP.out, rfl, World.ownsRow_nil _ _ _ _⟩
      · have SP := Lib.hid (S.2 (by omega))
        have hlt' : (ns : Int) ≤ (m : Int) := by omega
        clear S
        go_wp2
        go_ret2
        exact ⟨HB.out, L, 0, _, SP.out, rfl, by rw [HM.out]; exact HO.out⟩
  · have hne' : ((ns : Int) != (nn : Int)) = true := by rw [bne_iff_ne]; omega
    have SP : Hid (SortSpec nm ns N [] 2) := Lib.hid (Or.inl ⟨by omega, rfl, rfl⟩)
    clear hnames hneeds hnl hcc hsz hnm
    go_enter Try.func12, Try.ntmps12
    go_wp2
    go_ret2
    exact ⟨Below.refl _ _, [], 2, _, SP.out, rfl, World.ownsRow_nil _ _ _ _⟩
end Go.Proofs.Ytnonncjndlcjgaa
