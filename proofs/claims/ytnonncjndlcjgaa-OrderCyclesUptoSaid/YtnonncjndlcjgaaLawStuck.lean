/- The law OrderStuck, walked: it returns true. -/
import Derived.Test.YtnonncjndlcjgaaRstuck
import Derived.Test.YtnonncjndlcjgaaRreach
import Derived.Test.YtnonncjndlcjgaaLawSorts
namespace Go.Proofs.Ytnonncjndlcjgaa
open Go.RowKit
variable {w : World} {N : List (List Int)}

theorem int_bounds {a : Int} (h : (Lit.int .i64 a).wf = true) : -9223372036854775808 ≤ a ∧ a ≤ 9223372036854775807 := by
  simpa [Lit.wf, IntKind.min, IntKind.max, IntKind.signed, IntKind.bits] using h

/-- great's answer, where all is small -/
def GreatB (n : Nat) (N : List (List Int)) (w : World) (e : Ending) (w' : World) : Prop :=
  ∃ r, e = .returned (.bool r) ∧ w = w' ∧ (r = false → n + Pl.szs (natM N) n ≤ 300)
theorem great_b {pn : Option Addr} {n cn : Nat} (hneeds : Needs w pn n cn N) (hsmall : N.length + Pl.szs (natM N) N.length ≤ 1048576) : Calls Try.prog 10 #[.slice pn n cn] w (GreatB n N w) := by
  have hn := hneeds.1
  have hs : ∀ k, k ≤ n → 0 ≤ tot N k ∧ tot N k ≤ 4611686018427387904 := fun k hk => by
    have a := tot_szs N k
    have b := Pl.szs_mono (natM N) (i := k) (k := N.length) (by omega)
    omega
  refine (great_ok hneeds hs).mono ?_
  rintro e w' ⟨rfl, rfl⟩
  refine ⟨_, rfl, rfl, fun hr => ?_⟩
  have := tot_szs N n
  simp at hr
  omega

/-- what every law asks first: the examples, the size -/
structure Begin (w : World) (pn : Option Addr) (n cn : Nat) (N : List (List Int)) : Prop where
  great : ∀ w1, Below w.heap.size w w1 → Calls Try.prog 10 #[.slice pn n cn] w1 (GreatB n N w1)
  needs : ∀ w1, Below w.heap.size w w1 → Needs w1 pn n cn N
theorem Begin.mk' {pn : Option Addr} {n cn : Nat} (hneeds : Needs w pn n cn N) (hsmall : N.length + Pl.szs (natM N) N.length ≤ 1048576) : Begin w pn n cn N :=
  ⟨fun _ hb => great_b (hneeds.below hb) hsmall, fun _ hb => hneeds.below hb⟩

set_option maxRecDepth 100000 in
set_option maxHeartbeats 4000000 in
theorem stuckLaw_any {pn : Option Addr} {n cn : Nat} {a : Int} (hneeds : Needs w pn n cn N) (hsmall : N.length + Pl.szs (natM N) N.length ≤ 1048576) (_ha : -9223372036854775808 ≤ a ∧ a ≤ 9223372036854775807) :
    Calls Try.prog 6 #[.slice pn n cn, .int .i64 a] w fun e w' => e = .returned (.bool true) ∧ Below w.heap.size w w' := by
  have BG := Lib.hid (Begin.mk' hneeds hsmall)
  have hn := hneeds.1
  obtain ⟨r, hr⟩ : ∃ r, rightB N = r := ⟨_, rfl⟩
  have HN := Lib.hid hn
  have HR := Lib.hid hr
  have hcase : (r = false) ∨ (r = true ∧ (a < 0 ∨ (0 ≤ a ∧ (n : Int) ≤ a))) ∨ (r = true ∧ ∃ k : Nat, a = k ∧ k < n) := by
    cases r with
    | false => exact Or.inl rfl
    | true =>
      by_cases h1 : a < 0
      · exact Or.inr (Or.inl ⟨rfl, Or.inl h1⟩)
      · by_cases h2 : (n : Int) ≤ a
        · exact Or.inr (Or.inl ⟨rfl, Or.inr ⟨by omega, h2⟩⟩)
        · exact Or.inr (Or.inr ⟨rfl, a.toNat, by omega, by omega⟩)
  clear hneeds hsmall hn hr _ha
  go_enter Try.func6, Try.ntmps6
  go_wp2_with fail
  refine (alive_any _).mono ?_
  rintro e w1 ⟨rfl, hb1⟩
  have HB1 := Lib.hid hb1
  clear hb1
  go_wp2_with fail
  refine (BG.out.great _ HB1.out).mono ?_
  rintro e w2 ⟨g, rfl, rfl, hg⟩
  cases g with
  | true =>
    clear hg hcase
    go_wp2_with fail
    refine (alive_any _).mono ?_
    rintro e w3 ⟨rfl, hb3⟩
    have HB3 := Lib.hid hb3
    clear hb3
    go_wp2_with fail
    go_ret
    exact ⟨rfl, HB1.out.trans (HB3.out.mono HB1.out.size)⟩
  | false =>
    have HG := Lib.hid (hg rfl)
    clear hg
    rcases hcase with hrf | ⟨hrt, hbad⟩ | ⟨hrt, k, hak, hk⟩
    · subst hrf
      go_wp2_with fail
      refine (stuck_any (BG.out.needs _ HB1.out) (by have := HG.out; omega)).mono ?_
      rintro e w3 ⟨hb3, R, c, v, hs, rfl, hown⟩
      have HB3 : Hid (Below w.heap.size w w3) := Lib.hid (HB1.out.trans (hb3.mono HB1.out.size))
      obtain ⟨p, cc, hv, hi⟩ := ints_of_own hown
      obtain ⟨hR, hc⟩ := hs.unique (Or.inl ⟨HR.out, rfl, rfl⟩)
      rw [hR] at hv
      subst hv hc
      clear hb3 hs hown hi hR
      go_wp2_with fail
      refine (reach_bad (BG.out.needs _ HB3.out) (Or.inl HR.out)).mono ?_
      rintro e w4 ⟨hb4, R', c', v', hs', rfl, hown'⟩
      have HB4 : Hid (Below w.heap.size w w4) := Lib.hid (HB3.out.trans (hb4.mono HB3.out.size))
      obtain ⟨p', cc', hv', hi'⟩ := ints_of_own hown'
      have hR' : R' = [] ∧ c' = 3 := by
        rcases hs' with ⟨_, h1, h2⟩ | ⟨h1, _⟩
        · exact ⟨h1, h2⟩
        · rw [HR.out] at h1; cases h1
      obtain ⟨hR1, hc1⟩ := hR'
      rw [hR1] at hv'
      subst hv' hc1
      clear hb4 hs' hown' hi' hR1
      have RR := rright_any (BG.out.needs _ HB4.out)
      rw [HR.out] at RR
      have HRR := Lib.hid RR
      clear RR
      go_wp2_with fail
      refine HRR.out.mono ?_
      rintro e w5 ⟨rfl, rfl⟩
      go_wp2
      go_ret
      exact ⟨ret_bool (by simp), HB4.out⟩
    · subst hrt
      go_wp2_with fail
      refine (stuck_any (BG.out.needs _ HB1.out) (by have := HG.out; omega)).mono ?_
      rintro e w3 ⟨hb3, R, c, v, hs, rfl, hown⟩
      have HB3 : Hid (Below w.heap.size w w3) := Lib.hid (HB1.out.trans (hb3.mono HB1.out.size))
      obtain ⟨p, cc, hv, hi⟩ := ints_of_own hown
      have hc : c = 0 := by
        rcases hs with ⟨h1, _⟩ | ⟨_, h1, _⟩
        · rw [HR.out] at h1; cases h1
        · exact h1
      subst hv hc
      have HS := Lib.hid hs
      have HI := Lib.hid hi
      clear hb3 hs hown hi
      go_wp2_with fail
      refine (reach_bad (BG.out.needs _ HB3.out) (Or.inr (by rcases hbad with h | h; exact Or.inl h; exact Or.inr h.2))).mono ?_
      rintro e w4 ⟨hb4, R', c', v', hs', rfl, hown'⟩
      have HB4 : Hid (Below w.heap.size w w4) := Lib.hid (HB3.out.trans (hb4.mono HB3.out.size))
      obtain ⟨p', cc', hv', hi'⟩ := ints_of_own hown'
      have hR' : R' = [] ∧ c' = 3 := by
        rcases hs' with ⟨_, h1, h2⟩ | ⟨_, h1, h2, _⟩
        · exact ⟨h1, h2⟩
        · have := HN.out
          rcases hbad with h | h
          · omega
          · omega
      obtain ⟨hR1, hc1⟩ := hR'
      rw [hR1] at hv'
      subst hv' hc1
      have HI4 : Hid (Ints w4 p R.length cc (R.map Int.ofNat)) := Lib.hid (HI.out.below hb4)
      clear hb4 hs' hown' hi' hR1
      have RR := rright_any (BG.out.needs _ HB4.out)
      rw [HR.out] at RR
      have HRR := Lib.hid RR
      clear RR
      go_wp2_with fail
      refine HRR.out.mono ?_
      rintro e w5 ⟨rfl, rfl⟩
      go_wp2_with fail
      refine (rstuck_any (BG.out.needs _ HB4.out) HR.out (by have := HG.out; omega)).mono ?_
      rintro e w5 ⟨hb5, R5, v5, hs5, rfl, hown5⟩
      have HB5 : Hid (Below w.heap.size w w5) := Lib.hid (HB4.out.trans (hb5.mono HB4.out.size))
      obtain ⟨rfl, _⟩ := hs5.unique HS.out
      obtain ⟨p5, cc5, hv5, hi5⟩ := ints_of_own hown5
      subst hv5
      have SM := same_any (HI4.out.below hb5) hi5
      rw [decide_eq_true (rfl : R5.map Int.ofNat = R5.map Int.ofNat)] at SM
      have HSM := Lib.hid SM
      clear hb5 hs5 hown5 hi5 SM
      go_wp2_with fail
      refine HSM.out.mono ?_
      rintro e w6 ⟨rfl, hb6⟩
      have HB6 : Hid (Below w.heap.size w w6) := Lib.hid (HB5.out.trans (hb6.mono HB5.out.size))
      clear hb6
      rcases hbad with h | ⟨h, h'⟩
      all_goals
        go_wp2
        go_ret
        exact ⟨ret_bool (by simp), HB6.out⟩
    · subst hrt
      subst hak
      have hki : (k : Int) < (n : Int) := by omega
      have hd1 : decide ((k : Int) < 0) = false := by rw [decide_eq_false_iff_not]; omega
      have hd2 : decide (n ≤ k) = false := by rw [decide_eq_false_iff_not]; omega
      have hd3 : decide ((n : Int) ≤ (k : Int)) = false := by rw [decide_eq_false_iff_not]; omega
      go_wp2_with fail
      refine (stuck_any (BG.out.needs _ HB1.out) (by have := HG.out; omega)).mono ?_
      rintro e w3 ⟨hb3, R, c, v, hs, rfl, hown⟩
      have HB3 : Hid (Below w.heap.size w w3) := Lib.hid (HB1.out.trans (hb3.mono HB1.out.size))
      obtain ⟨p, cc, hv, hi⟩ := ints_of_own hown
      have hc : c = 0 := by
        rcases hs with ⟨h1, _⟩ | ⟨_, h1, _⟩
        · rw [HR.out] at h1; cases h1
        · exact h1
      subst hv hc
      have HS := Lib.hid hs
      have HI := Lib.hid hi
      clear hb3 hs hown hi
      go_wp2_with fail
      refine (reach_good (BG.out.needs _ HB3.out) (by have := HG.out; omega) HR.out hk).mono ?_
      rintro e w4 ⟨hb4, R', c', v', hs', rfl, hown'⟩
      have HB4 : Hid (Below w.heap.size w w4) := Lib.hid (HB3.out.trans (hb4.mono HB3.out.size))
      obtain ⟨p', cc', hv', hi'⟩ := ints_of_own hown'
      have hc1 : c' = 0 := by
        rcases hs' with ⟨h, _⟩ | ⟨_, _, _, h1, _⟩
        · have := HN.out
          rcases h with h | h | h
          · rw [HR.out] at h; cases h
          · omega
          · omega
        · exact h1
      subst hv' hc1
      have HI4 : Hid (Ints w4 p R.length cc (R.map Int.ofNat)) := Lib.hid (HI.out.below hb4)
      have HS' := Lib.hid hs'
      have HI' := Lib.hid hi'
      clear hb4 hs' hown' hi'
      have RR := rright_any (BG.out.needs _ HB4.out)
      rw [HR.out] at RR
      have HRR := Lib.hid RR
      clear RR
      go_wp2_with fail
      refine HRR.out.mono ?_
      rintro e w5 ⟨rfl, rfl⟩
      go_wp2_with fail
      refine (rstuck_any (BG.out.needs _ HB4.out) HR.out (by have := HG.out; omega)).mono ?_
      rintro e w5 ⟨hb5, R5, v5, hs5, rfl, hown5⟩
      have HB5 : Hid (Below w.heap.size w w5) := Lib.hid (HB4.out.trans (hb5.mono HB4.out.size))
      obtain ⟨rfl, _⟩ := hs5.unique HS.out
      obtain ⟨p5, cc5, hv5, hi5⟩ := ints_of_own hown5
      subst hv5
      have SM := same_any (HI4.out.below hb5) hi5
      rw [decide_eq_true (rfl : R5.map Int.ofNat = R5.map Int.ofNat)] at SM
      have HSM := Lib.hid SM
      have HI5 : Hid (Ints w5 p' R'.length cc' (R'.map Int.ofNat)) := Lib.hid (HI'.out.below hb5)
      clear hb5 hs5 hown5 hi5 SM
      go_wp2_with fail
      refine HSM.out.mono ?_
      rintro e w6 ⟨rfl, hb6⟩
      have HB6 : Hid (Below w.heap.size w w6) := Lib.hid (HB5.out.trans (hb6.mono HB5.out.size))
      have HI6 : Hid (Ints w6 p' R'.length cc' (R'.map Int.ofNat)) := Lib.hid (HI5.out.below hb6)
      clear hb6
      go_wp2_with fail
      refine (rreach_any (BG.out.needs _ HB6.out) (by have := HG.out; omega) HR.out hk).mono ?_
      rintro e w7 ⟨hb7, R7, v7, hs7, rfl, hown7⟩
      have HB7 : Hid (Below w.heap.size w w7) := Lib.hid (HB6.out.trans (hb7.mono HB6.out.size))
      have hRR : R7 = R' := by
        rcases hs7 with ⟨_, _, h⟩ | ⟨_, _, _, _, S, hS, h1⟩
        · cases h
        · rcases HS'.out with ⟨_, _, h⟩ | ⟨_, _, _, _, T, hT, h2⟩
          · cases h
          · rw [h1, h2, hS.unique hT]
      subst hRR
      obtain ⟨p7, cc7, hv7, hi7⟩ := ints_of_own hown7
      subst hv7
      have SM7 := same_any (HI6.out.below hb7) hi7
      rw [decide_eq_true (rfl : R7.map Int.ofNat = R7.map Int.ofNat)] at SM7
      have HSM7 := Lib.hid SM7
      clear hb7 hs7 hown7 hi7 SM7
      go_wp2_with fail
      refine HSM7.out.mono ?_
      rintro e w8 ⟨rfl, hb8⟩
      have HB8 : Hid (Below w.heap.size w w8) := Lib.hid (HB7.out.trans (hb8.mono HB7.out.size))
      clear hb8
      go_wp2_with fail
      go_ret
      exact ⟨ret_bool (by simp), HB8.out⟩
end Go.Proofs.Ytnonncjndlcjgaa
