/- The law OrderSorts, walked: it returns true. -/
import Derived.Test.YtnonncjndlcjgaaAlive
namespace Go.Proofs.Ytnonncjndlcjgaa
open Go.RowKit
variable {w : World} {N : List (List Int)}

theorem tot_szs (N : List (List Int)) (k : Nat) : tot N k = N.length + (Pl.szs (natM N) k : Nat) := by
  induction k with
  | zero => simp [tot, Pl.szs]
  | succ k ih =>
    have e : ((natM N).getD k []).length = (N.getD k []).length := by rw [natM_getD, List.length_map]
    simp only [tot, Pl.szs, ih, e]
    omega

theorem szs_le (N : List (List Int)) (c : Nat) (hb : ∀ j, (N.getD j []).length ≤ c) : ∀ k, Pl.szs (natM N) k ≤ k * c := by
  intro k
  induction k with
  | zero => simp [Pl.szs]
  | succ k ih =>
    have e : ((natM N).getD k []).length = (N.getD k []).length := by rw [natM_getD, List.length_map]
    have := hb k
    simp only [Pl.szs, e]
    rw [Nat.add_mul]
    omega

/-- great's answer, where it can be believed -/
def GreatA (ns nn : Nat) (N : List (List Int)) (w : World) (e : Ending) (w' : World) : Prop :=
  ∃ r, e = .returned (.bool r) ∧ w = w' ∧ (ns = nn → ns ≤ 300 → r = false → nn + Pl.szs (natM N) nn ≤ 300)

theorem great_a {pn : Option Addr} {ns nn cn : Nat} (hneeds : Needs w pn nn cn N) (hbig : ∀ j, (N.getD j []).length ≤ 17592186044416) : Calls Try.prog 10 #[.slice pn nn cn] w (GreatA ns nn N w) := by
  by_cases h : ns = nn ∧ ns ≤ 300
  · obtain ⟨h1, h2⟩ := h
    have hn := hneeds.1
    have hs : ∀ k, k ≤ nn → 0 ≤ tot N k ∧ tot N k ≤ 4611686018427387904 := fun k hk => by
      have a := tot_szs N k
      have b := szs_le N 17592186044416 hbig k
      have c : k * 17592186044416 ≤ 300 * 17592186044416 := Nat.mul_le_mul_right _ (by omega)
      omega
    refine (great_ok hneeds hs).mono ?_
    rintro e w' ⟨rfl, rfl⟩
    refine ⟨_, rfl, rfl, fun _ _ hr => ?_⟩
    have := tot_szs N nn
    simp at hr
    omega
  · refine (great_any hneeds).mono ?_
    rintro e w' ⟨⟨r, rfl⟩, rfl⟩
    exact ⟨r, rfl, rfl, fun h1 h2 => absurd ⟨h1, h2⟩ h⟩

set_option maxHeartbeats 2000000 in
theorem sorts_any {ps pn : Option Addr} {ns cs nn cn : Nat} {ss : List ByteArray} (hnames : Strs w ps ns cs ss) (hneeds : Needs w pn nn cn N) (hbig : ∀ j, (N.getD j []).length ≤ 17592186044416) :
    Calls Try.prog 3 #[.slice ps ns cs, .slice pn nn cn] w fun e w' => e = .returned (.bool true) ∧ Below w.heap.size w w' := by
  have G := Lib.hid fun (w1 : World) (hb : Below w.heap.size w w1) => great_a (ns := ns) (hneeds.below hb) hbig
  have S1 := Lib.hid fun (w1 : World) (hb : Below w.heap.size w w1) hs => sort_any (hnames.below hb) (hneeds.below hb) hs
  have S2 := Lib.hid fun (w1 : World) (hb : Below w.heap.size w w1) hs => rsort_any (hnames.below hb) (hneeds.below hb) hs
  clear hnames hneeds hbig
  by_cases hbign : 300 < ns
  · have h3 : (300 : Int) < (ns : Int) := by omega
    go_enter Try.func3, Try.ntmps3
    go_wp2_with fail
    refine (alive_any _).mono ?_
    rintro e w1 ⟨rfl, hb1⟩
    have HB1 := Lib.hid hb1
    clear hb1
    go_wp2_with fail
    refine (G.out _ HB1.out).mono ?_
    rintro e w2 ⟨r, rfl, rfl, _⟩
    cases r
    all_goals
      go_wp2_with fail
      refine (alive_any _).mono ?_
      rintro e w3 ⟨rfl, hb3⟩
      have HB3 := Lib.hid hb3
      clear hb3
      go_wp2_with fail
      go_ret
      exact ⟨rfl, HB1.out.trans (HB3.out.mono HB1.out.size)⟩
  · have h3 : (ns : Int) ≤ 300 := by omega
    have hns : ns ≤ 300 := by omega
    clear hbign
    go_enter Try.func3, Try.ntmps3
    go_wp2_with fail
    refine (alive_any _).mono ?_
    rintro e w1 ⟨rfl, hb1⟩
    have HB1 := Lib.hid hb1
    clear hb1
    go_wp2_with fail
    refine (G.out _ HB1.out).mono ?_
    rintro e w2 ⟨r, rfl, rfl, hr⟩
    cases r with
    | true =>
      clear hr
      go_wp2_with fail
      refine (alive_any _).mono ?_
      rintro e w3 ⟨rfl, hb3⟩
      have HB3 := Lib.hid hb3
      clear hb3
      go_wp2_with fail
      go_ret
      exact ⟨rfl, HB1.out.trans (HB3.out.mono HB1.out.size)⟩
    | false =>
      have HR := Lib.hid fun (h : ns = nn) => hr h hns rfl
      clear hr
      go_wp2_with fail
      refine (S1.out _ HB1.out (fun h => by have := HR.out h; omega)).mono ?_
      rintro e w3 ⟨hb3, R, c, v, hs, rfl, hown⟩
      have HB3 : Hid (Below w.heap.size w w3) := Lib.hid (HB1.out.trans (hb3.mono HB1.out.size))
      obtain ⟨p, cc, hv, hi⟩ := ints_of_own hown
      subst hv
      have HS := Lib.hid hs
      have HI := Lib.hid hi
      clear hb3 hs hown hi
      go_wp2_with fail
      refine (S2.out _ HB3.out (fun h => by have := HR.out h; omega)).mono ?_
      rintro e w4 ⟨hb4, R', c', v', hs', rfl, hown'⟩
      obtain ⟨rfl, rfl⟩ := hs'.unique HS.out
      obtain ⟨p', cc', hv', hi'⟩ := ints_of_own hown'
      subst hv'
      have SM := same_any (HI.out.below hb4) hi'
      rw [decide_eq_true (rfl : R'.map Int.ofNat = R'.map Int.ofNat)] at SM
      have HSM := Lib.hid SM
      have HB4 : Hid (Below w.heap.size w w4) := Lib.hid (HB3.out.trans (hb4.mono HB3.out.size))
      clear hb4 hs' hown' hi' SM
      go_wp2_with fail
      refine HSM.out.mono ?_
      rintro e w5 ⟨rfl, hb5⟩
      have HB5 : Hid (Below w.heap.size w w5) := Lib.hid (HB4.out.trans (hb5.mono HB4.out.size))
      clear hb5
      go_wp2_with fail
      go_ret
      exact ⟨ret_bool (by simp), HB5.out⟩
end Go.Proofs.Ytnonncjndlcjgaa
