/- The law OrderCycles, walked: it returns true. -/
import Derived.Test.YtnonncjndlcjgaaLess
namespace Go.Proofs.Ytnonncjndlcjgaa
open Go.RowKit
variable {w : World} {N : List (List Int)}

/-- y needs one that needs y -/
def Hit (M : List (List Nat)) (y : Nat) : Prop := ∃ z, z ∈ M.getD y [] ∧ Pl.To M z y

/-- what Reach answers, said plainly -/
def ReachedPost (N : List (List Int)) (a : Nat) (w : World) (e : Ending) (w' : World) : Prop :=
  Below w.heap.size w w' ∧ ∃ (R : List Nat) (p : Option Addr) (c : Nat), e = .returned (.tuple #[.slice p R.length c, .int .i64 0]) ∧ Ints w' p R.length c (R.map Int.ofNat) ∧ ∀ y, y ∈ R ↔ y < N.length ∧ Pl.To (natM N) a y
theorem reached {pn : Option Addr} {n cn : Nat} {a : Nat} (hneeds : Needs w pn n cn N) (hsz : n + Pl.szs (natM N) n ≤ 1000000) (hr : rightB N = true) (ha : a < n) :
    Calls Try.prog 16 #[.slice pn n cn, .int .i64 (a : Nat)] w (ReachedPost N a w) := by
  refine (reach_good hneeds hsz hr ha).mono ?_
  rintro e w' ⟨hb, R, c, v, hs, rfl, hown⟩
  obtain ⟨p, cc, rfl, hi⟩ := ints_of_own hown
  have hn := hneeds.1
  rcases hs with ⟨h, _⟩ | ⟨_, _, _, rfl, S, hS, rfl⟩
  · rcases h with h | h | h
    · rw [hr] at h; cases h
    · omega
    · omega
  · refine ⟨hb, _, p, cc, rfl, hi, fun y => ?_⟩
    rw [List.mem_filter, List.mem_range]
    have := hS.to y
    simp only [Int.toNat_natCast] at this
    rw [this]

/-- what Stuck answers, said plainly -/
def StuckedPost (N : List (List Int)) (w : World) (e : Ending) (w' : World) : Prop :=
  Below w.heap.size w w' ∧ ∃ (R : List Nat) (p : Option Addr) (c : Nat), e = .returned (.tuple #[.slice p R.length c, .int .i64 0]) ∧ Ints w' p R.length c (R.map Int.ofNat) ∧ ∃ L, Pl.Done (ltN nm0) (natM N) L ∧ ∀ x ∈ R, x < N.length ∧ x ∉ L
theorem stucked {pn : Option Addr} {n cn : Nat} (hneeds : Needs w pn n cn N) (hsz : n + Pl.szs (natM N) n ≤ 1000000) (hr : rightB N = true) :
    Calls Try.prog 15 #[.slice pn n cn] w (StuckedPost N w) := by
  refine (stuck_any hneeds hsz).mono ?_
  rintro e w' ⟨hb, R, c, v, hs, rfl, hown⟩
  obtain ⟨p, cc, rfl, hi⟩ := ints_of_own hown
  rcases hs with ⟨h, _⟩ | ⟨_, rfl, L, hL, rfl⟩
  · rw [hr] at h; cases h
  · refine ⟨hb, _, p, cc, rfl, hi, L, hL, fun x hx => ?_⟩
    obtain ⟨h1, h2⟩ := List.mem_filter.1 hx
    exact ⟨List.mem_range.1 h1, by simpa using h2⟩

set_option maxRecDepth 100000 in
set_option maxHeartbeats 4000000 in
theorem cycles_any {pn : Option Addr} {n cn : Nat} (hneeds : Needs w pn n cn N) (hsmall : N.length + Pl.szs (natM N) N.length ≤ 1048576) :
    Calls Try.prog 7 #[.slice pn n cn] w fun e w' => e = .returned (.bool true) ∧ Below w.heap.size w w' := by
  have BG := Lib.hid (Begin.mk' hneeds hsmall)
  have hn := hneeds.1
  obtain ⟨r, hr⟩ : ∃ r, rightB N = r := ⟨_, rfl⟩
  have HNN : Hid (rightB N = true → NeedsN w pn n cn (natM N)) := Lib.hid fun h => needsN_of hneeds h
  have HN := Lib.hid hn
  have HR := Lib.hid hr
  clear hneeds hsmall hn hr
  go_enter Try.func7, Try.ntmps7
  go_wp2_with fail
  refine (alive_any _).mono ?_
  rintro e w1 ⟨rfl, hb1⟩
  have HB1 := Lib.hid hb1
  clear hb1
  go_wp2_with fail
  refine (BG.out.great _ HB1.out).mono ?_
  rintro e w2 ⟨g, rfl, rfl, hg⟩
  cases g with
  | true =>
    clear hg
    go_wp2_with fail
    refine (alive_any _).mono ?_
    rintro e w3 ⟨rfl, hb3⟩
    have HB3 := Lib.hid hb3
    clear hb3
    go_wp2_with fail
    go_ret
    exact ⟨rfl, HB1.out.trans (HB3.out.mono HB1.out.size)⟩
  | false =>
    have HG := Lib.hid (hg rfl)
    clear hg
    have RR := rright_any (BG.out.needs _ HB1.out)
    rw [HR.out] at RR
    have HRR := Lib.hid RR
    clear RR
    go_wp2_with fail
    refine HRR.out.mono ?_
    rintro e w5 ⟨rfl, rfl⟩
    cases r with
    | false =>
      go_wp2_with fail
      refine (alive_any _).mono ?_
      rintro e w3 ⟨rfl, hb3⟩
      have HB3 := Lib.hid hb3
      clear hb3
      go_wp2_with fail
      go_ret
      exact ⟨rfl, HB1.out.trans (HB3.out.mono HB1.out.size)⟩
    | true =>
      have hn3 : n ≤ 300 := by have := HG.out; omega
      have hin := natM_in HR.out
      rw [natM_length, ← HN.out] at hin
      have HIN := Lib.hid hin
      clear hin
      go_wp2_with fail
      refine (stucked (BG.out.needs _ HB1.out) (by have := HG.out; omega) HR.out).mono ?_
      rintro e w3 ⟨hb3, R, p, cc, rfl, hi, L, hL, hRL⟩
      have HB3 : Hid (Below w.heap.size w w3) := Lib.hid (HB1.out.trans (hb3.mono HB1.out.size))
      obtain ⟨m, hm⟩ : ∃ m, R.length = m := ⟨_, rfl⟩
      rw [hm] at hi ⊢
      have HM := Lib.hid hm
      have hcn3 := hi.2.1
      have hcm3 := hi.2.2.1
      have HI := Lib.hid hi
      have HX : Hid (∀ x ∈ R, x < n ∧ ∃ y, y < n ∧ Pl.To (natM N) x y ∧ Hit (natM N) y) := Lib.hid fun x hx => by
        obtain ⟨h1, h2⟩ := hRL x hx
        obtain ⟨y, z, h3, h4, h5⟩ := hL.cycle (fun j k hk => natM_in HR.out j k hk) (x := x) (by simpa using h1) h2
        refine ⟨by rw [HN.out]; exact h1, y, ?_, h3, z, h4, h5⟩
        by_cases hy : y < n
        · exact hy
        · have e : (natM N).getD y [] = [] := by
            have : ¬ y < (natM N).length := by rw [natM_length, ← HN.out]; exact hy
            simp [List.getD, List.getElem?_eq_none (Nat.le_of_not_lt this)]
          rw [e] at h4
          cases h4
      obtain ⟨hnq, hncc, hnmm, hnc⟩ := HNN.out HR.out
      have HNC := Lib.hid hnc
      obtain ⟨i26, hi26, hz260, hz261, hz262⟩ := info_parts Try.info26
      have HI26 := Lib.hid hi26
      have HZ0 := Lib.hid hz260
      have HZ1 := Lib.hid hz261
      have HZ2 := Lib.hid hz262
      clear hb3 hi hL hRL hm hnq hnc hi26 hz260 hz261 hz262
      go_wp2
      go_loopw [44] (fun i wr => ∃ t : Nat, i = .int .i64 t ∧ t ≤ m ∧ Below w3.heap.size w3 wr) (fun i _ => m - (RowKit.intOf i).toNat)
      case atStart => exact ⟨0, rfl, Nat.zero_le _, Below.refl _ _⟩
      case round =>
        obtain ⟨t, rfl, ht, hbo⟩ := hrel
        obtain ⟨wo, hwo⟩ : ∃ wo : World, wo = wr := ⟨_, rfl⟩
        subst hwo
        have HBO := Lib.hid hbo
        have HBo : Hid (Below w.heap.size w wo) := Lib.hid (HB3.out.trans (hbo.mono HB3.out.size))
        clear hbo
        by_cases htm : t < m
        · have hii := HI.out.2.2.2
          rcases hii with h0 | ⟨b, off, rfl, hB, hcells⟩
          · omega
          obtain ⟨x, hx⟩ : ∃ x, R.getD t 0 = x := ⟨_, rfl⟩
          have hRt : t < R.length := by rw [HM.out]; exact htm
          obtain ⟨hxn, y0, hy0n, hy0t, hy0h⟩ := HX.out x (getD_mem hRt hx)
          have hcell := cell_of_ints HBO.out hB hcells htm hRt hx
          have hti : (t : Int) < (m : Int) := by omega
          have hxi : (x : Int) < (n : Int) := by omega
          have hx0 : decide ((x : Int) < 0) = false := by rw [decide_eq_false_iff_not]; omega
          have hxg : decide ((n : Int) ≤ (x : Int)) = false := by rw [decide_eq_false_iff_not]; omega
          have hxg' : decide (n ≤ x) = false := by rw [decide_eq_false_iff_not]; omega
          clear hcells hx hRt
          go_wp2_with fail
          refine (reached (BG.out.needs _ HBo.out) (by have := HG.out; omega) HR.out hxn).mono ?_
          rintro e w4 ⟨hb4, R4, p4, c4, rfl, hi4, hR4⟩
          have HB4 : Hid (Below w.heap.size w w4) := Lib.hid (HBo.out.trans (hb4.mono HBo.out.size))
          have HB43 : Hid (Below w3.heap.size w3 w4) := Lib.hid (HBO.out.trans (hb4.mono HBO.out.size))
          have hR4n : ∀ y ∈ R4, y < n := fun y hy => by rw [HN.out]; exact ((hR4 y).1 hy).1
          have hy0R : y0 ∈ R4 := (hR4 y0).2 ⟨by rw [← HN.out]; exact hy0n, hy0t⟩
          obtain ⟨m4, hm4⟩ : ∃ m4, R4.length = m4 := ⟨_, rfl⟩
          rw [hm4] at hi4 ⊢
          have HM4 := Lib.hid hm4
          have hcn4 := hi4.2.1
          have hcm4 := hi4.2.2.1
          have HI4 := Lib.hid hi4
          have HR4n := Lib.hid hR4n
          have HY0 := Lib.hid (show y0 ∈ R4 ∧ Hit (natM N) y0 from ⟨hy0R, hy0h⟩)
          clear hb4 hi4 hR4 hm4 hR4n hy0R hy0n hy0t hy0h hcell
          go_wp2
          go_loopw [9, 66] (fun sv i wr => ∃ (t : Nat) (s : Bool), sv = .bool s ∧ i = .int .i64 t ∧ t ≤ m4 ∧ Below w4.heap.size w4 wr ∧ ∀ t', t' < t → Hit (natM N) (R4.getD t' 0) → s = true) (fun _ i _ => m4 - (RowKit.intOf i).toNat)
          case atStart => exact ⟨0, _, rfl, rfl, Nat.zero_le _, Below.refl _ _, fun _ h => absurd h (by omega)⟩
          case round =>
            obtain ⟨t4, s4, rfl, rfl, ht4, hb5, hs4⟩ := hrel
            obtain ⟨w5, hw5⟩ : ∃ w5 : World, w5 = wr := ⟨_, rfl⟩
            subst hw5
            have HB54 := Lib.hid hb5
            have HB5 : Hid (Below w.heap.size w w5) := Lib.hid (HB4.out.trans (hb5.mono HB4.out.size))
            have HB53 : Hid (Below w3.heap.size w3 w5) := Lib.hid (HB43.out.trans (hb5.mono HB43.out.size))
            have HS4 := Lib.hid hs4
            clear hb5 hs4
            by_cases htm4 : t4 < m4
            · have hii := HI4.out.2.2.2
              rcases hii with h0 | ⟨b4, off4, rfl, hB4, hcells4⟩
              · omega
              have hnc := HNC.out
              rcases hnc with h0 | ⟨b1, off1, rfl, hB1, hcells1⟩
              · omega
              obtain ⟨y, hy⟩ : ∃ y, R4.getD t4 0 = y := ⟨_, rfl⟩
              have hRt : t4 < R4.length := by rw [HM4.out]; exact htm4
              have hyn := HR4n.out y (getD_mem hRt hy)
              have hcell := cell_of_ints HB54.out hB4 hcells4 htm4 hRt hy
              have HY := Lib.hid hy
              have hti4 : (t4 : Int) < (m4 : Int) := by omega
              have hyi : (y : Int) < (n : Int) := by omega
              have hy0 : decide ((y : Int) < 0) = false := by rw [decide_eq_false_iff_not]; omega
              have hyg : decide ((n : Int) ≤ (y : Int)) = false := by rw [decide_eq_false_iff_not]; omega
              have hyg' : decide (n ≤ y) = false := by rw [decide_eq_false_iff_not]; omega
              obtain ⟨q, m5, c5, hcell1, hnats⟩ := hcells1 y hyn
              have hcell5 : w5.cell? ⟨b1, off1 + y, none⟩ = some (.slice q m5 c5) := by rw [HB5.out.cell (by exact hB1)]; exact hcell1
              obtain ⟨l, hl⟩ : ∃ l, (natM N).getD y [] = l := ⟨_, rfl⟩
              have hln : ∀ z ∈ l, z < n := fun z hz => HIN.out y z (by rw [hl]; exact hz)
              rw [hl] at hnats
              have hmc5 := hnats.2.1
              have hcm5 := hnats.2.2.1
              have HQ := Lib.hid hnats
              have HL := Lib.hid hl
              have HLN := Lib.hid hln
              clear hcells4 hcells1 hcell1 hnats hy hRt hl hln
              go_wp2
              go_loopw [9, 83] (fun sv i wr => ∃ (t : Nat) (s : Bool), sv = .bool s ∧ i = .int .i64 t ∧ t ≤ m5 ∧ Below w4.heap.size w4 wr ∧ (s4 = true → s = true) ∧ ∀ t', t' < t → Pl.To (natM N) (l.getD t' 0) y → s = true) (fun _ i _ => m5 - (RowKit.intOf i).toNat)
              case atStart => exact ⟨0, _, rfl, rfl, Nat.zero_le _, HB54.out, fun h => h, fun _ h => absurd h (by omega)⟩
              case round =>
                obtain ⟨t5, s5, rfl, rfl, ht5, hb6, hs51, hs52⟩ := hrel
                obtain ⟨w6, hw6⟩ : ∃ w6 : World, w6 = wr := ⟨_, rfl⟩
                subst hw6
                have HB64 := Lib.hid hb6
                have HB6 : Hid (Below w.heap.size w w6) := Lib.hid (HB4.out.trans (hb6.mono HB4.out.size))
                have HS51 := Lib.hid hs51
                have HS52 := Lib.hid hs52
                clear hb6 hs51 hs52 hcell hcell5
                by_cases htm5 : t5 < m5
                · have hti5 : (t5 : Int) < (m5 : Int) := by omega
                  have hq := HQ.out.2.2.2
                  rcases hq with h0 | ⟨b7, off7, rfl, hB7, hc7⟩
                  · omega
                  obtain ⟨z, hz⟩ : ∃ z, l.getD t5 0 = z := ⟨_, rfl⟩
                  have hzn := HLN.out z (getD_mem (by have := HQ.out.1; omega) hz)
                  have hzcell : w6.cell? ⟨b7, off7 + t5, none⟩ = some (.int .i64 (z : Nat)) := by
                    rw [HB6.out.cell (by exact hB7), hc7 t5 htm5, hz]
                  have HZ := Lib.hid hz
                  clear hz hc7
                  go_wp2_with fail
                  refine (reached (BG.out.needs _ HB6.out) (by have := HG.out; omega) HR.out hzn).mono ?_
                  rintro e w7 ⟨hb7, R7, p7, c7, rfl, hi7, hR7⟩
                  have HB7 : Hid (Below w.heap.size w w7) := Lib.hid (HB6.out.trans (hb7.mono HB6.out.size))
                  have HB74 : Hid (Below w4.heap.size w4 w7) := Lib.hid (HB64.out.trans (hb7.mono HB64.out.size))
                  have hyR : Pl.To (natM N) z y → y ∈ R7 := fun h => (hR7 y).2 ⟨by rw [← HN.out]; exact hyn, h⟩
                  have HYR := Lib.hid hyR
                  obtain ⟨m7, hm7⟩ : ∃ m7, R7.length = m7 := ⟨_, rfl⟩
                  rw [hm7] at hi7 ⊢
                  have HM7 := Lib.hid hm7
                  have hcn7 := hi7.2.1
                  have hcm7 := hi7.2.2.1
                  have HI7 := Lib.hid hi7
                  clear hb7 hi7 hR7 hm7 hyR hzcell
                  go_wp2
                  go_loop [9, 97] (fun sv i => ∃ (u : Nat) (s : Bool), sv = .bool s ∧ i = .int .i64 u ∧ u ≤ m7 ∧ (s5 = true → s = true) ∧ ∀ u', u' < u → R7.getD u' 0 = y → s = true) (fun _ i => m7 - (RowKit.intOf i).toNat)
                  case atStart => exact ⟨0, _, rfl, rfl, Nat.zero_le _, fun h => h, fun _ h => absurd h (by omega)⟩
                  case round =>
                    obtain ⟨u7, s7, rfl, rfl, hu7, hs71, hs72⟩ := hrel
                    have HS71 := Lib.hid hs71
                    have HS72 := Lib.hid hs72
                    clear hs71 hs72
                    by_cases hum : u7 < m7
                    · have hii := HI7.out.2.2.2
                      rcases hii with h0 | ⟨b8, off8, rfl, hB8, hcells8⟩
                      · omega
                      obtain ⟨v, hv⟩ : ∃ v, R7.getD u7 0 = v := ⟨_, rfl⟩
                      have hRu : u7 < R7.length := by rw [HM7.out]; exact hum
                      have hvcell := cell_of_ints (Below.refl _ w7) hB8 hcells8 hum hRu hv
                      have hui : (u7 : Int) < (m7 : Int) := by omega
                      have HV := Lib.hid hv
                      clear hv hRu hcells8
                      cases s7 with
                      | true =>
                        go_wp2
                        go_round
                        case rel => exact ⟨u7 + 1, true, rfl, by go_num, by omega, fun _ => rfl, fun _ _ _ => rfl⟩
                        case measure => simp [RowKit.intOf]; omega
                      | false =>
                        by_cases hvy : v = y
                        · subst hvy
                          go_wp2
                          go_round
                          case rel => exact ⟨u7 + 1, true, rfl, by go_num, by omega, fun _ => rfl, fun _ _ _ => rfl⟩
                          case measure => simp [RowKit.intOf]; omega
                        · have e1 : ((v : Int) == (y : Int)) = false := by rw [beq_eq_false_iff_ne]; omega
                          have e2 : decide ((v : Int) = (y : Int)) = false := by rw [decide_eq_false_iff_not]; omega
                          have e3 : (v == y) = false := by rw [beq_eq_false_iff_ne]; exact hvy
                          have e4 : decide (v = y) = false := by rw [decide_eq_false_iff_not]; exact hvy
                          have HVY := Lib.hid hvy
                          clear hvy
                          go_wp2
                          go_round
                          case rel => exact ⟨u7 + 1, false, rfl, by go_num, by omega, HS71.out, fun u' hu' h => by
                            by_cases e : u' = u7
                            · subst e; exact absurd (HV.out.symm.trans h) HVY.out
                            · exact HS72.out u' (by omega) h⟩
                          case measure => simp [RowKit.intOf]; omega
                    · have eu : u7 = m7 := by omega
                      subst eu
                      go_wp2
                      go_roundw
                      case rel => exact ⟨t5 + 1, s7, rfl, by go_num, by omega, HB74.out, fun h => HS71.out (HS51.out h), fun t' ht' h => by
                        by_cases e : t' = t5
                        · rw [e, HZ.out] at h
                          obtain ⟨u', hu', hh⟩ := mem_getD (HYR.out h)
                          exact HS72.out u' (by rw [← HM7.out]; exact hu') hh
                        · exact HS71.out (HS52.out t' (by omega) h)⟩
                      case measure => simp [RowKit.intOf]; omega
                · have et : t5 = m5 := by omega
                  subst et
                  go_wp2
                  go_roundw
                  case rel => exact ⟨t4 + 1, s5, rfl, by go_num, by omega, HB64.out, fun t' ht' h => by
                    by_cases e : t' = t4
                    · rw [e, HY.out] at h
                      obtain ⟨z, hz1, hz2⟩ := h
                      rw [HL.out] at hz1
                      obtain ⟨u', hu', hh⟩ := mem_getD hz1
                      exact HS52.out u' (by rw [HQ.out.1]; exact hu') (by rw [hh]; exact hz2)
                    · exact HS51.out (HS4.out t' (by omega) h)⟩
                  case measure => simp [RowKit.intOf]; omega
            · have et : t4 = m4 := by omega
              obtain ⟨t', ht', hh⟩ := mem_getD HY0.out.1
              have e5 : s4 = true := HS4.out t' (by have := HM4.out; omega) (by rw [hh]; exact HY0.out.2)
              subst e5
              subst et
              clear hh ht'
              have hne := BG.out.needs _ HB5.out
              have hnc := HNC.out
              rcases hnc with h0 | ⟨b1, off1, rfl, hB1, hcells1⟩
              · omega
              clear hcells1
              have hnew : Needs (w5.alloc (.cells #[] 26)) (some ⟨b1, off1, none⟩) n cn N := hne.below ((Below.refl _ _).alloc (Nat.le_refl _) _)
              have RN := Lib.hid (rowOf_news hnew)
              have LA := Lib.hid fun (v8 : Value) (w8 : World) hown hg => less_after (v := v8) (w' := w8) (x := x) hnew hown hg hxn
              have HBA : Hid (Below w.heap.size w (w5.alloc (.cells #[] 26)) ∧ Below w3.heap.size w3 (w5.alloc (.cells #[] 26))) := Lib.hid ⟨HB5.out.alloc HB5.out.size _, HB53.out.alloc HB53.out.size _⟩
              have hpos : 0 < n := by omega
              clear hne hnew
              go_wp2_with (at_builtin; refine wpList_append_grows (w5.alloc (.cells #[] 26)) rfl (.tmp 110) (.tmp 111) 23 rfl 26 i26 (.slice none 0 0) 1 24 Try.underlying23 HI26.out HZ0.out HZ1.out HZ2.out rfl (by decide) (some ⟨w5.heap.size, 0, none⟩) 0 0 [] rfl (fun e => by cases e) rfl (fun _ _ j u hu => by simp at hu) ⟨b1, off1, none⟩ n cn (rowOf (w5.alloc (.cells #[] 26)) b1 off1 n) rfl (by simp) RN.out.1 RN.out.2 (by omega) (by unfold maxLen; omega) (by omega) ?_; intro v8 w8 hown8 hg8; rw [Nat.zero_add, List.nil_append] at hown8; obtain ⟨g, cap, c0, hv8, h81, h82, h83, h84, h85, h86⟩ := LA.out v8 w8 hown8 hg8; subst hv8; have HBB := Lib.hid h85; have HNB := Lib.hid h86; clear h85 h86 hown8 hg8)
              refine (stucked HNB.out (by have h1 := HG.out; have h2 := szs_set (natM N) x n; rw [natM_set]; omega) (right_set HR.out)).mono ?_
              rintro e w9 ⟨hb9, R9, p9, c9, rfl, hi9, L9, hL9, hR9⟩
              have HB9 : Hid (Below w.heap.size w w9) := Lib.hid (by
                have := HBB.out w HBA.out.1
                exact this.trans (hb9.mono this.size))
              have HB93 : Hid (Below w3.heap.size w3 w9) := Lib.hid (by
                have := HBB.out w3 HBA.out.2
                exact this.trans (hb9.mono this.size))
              have hne9 : ∀ y ∈ R9, y ≠ x := fun y hy e => by
                rw [natM_set] at hL9
                have := hL9.freed (x := x) (by rw [natM_length, ← HN.out]; exact hxn)
                rw [e] at hy
                exact (hR9 x hy).2 this
              obtain ⟨m9, hm9⟩ : ∃ m9, R9.length = m9 := ⟨_, rfl⟩
              rw [hm9] at hi9 ⊢
              have HM9 := Lib.hid hm9
              have hcn9 := hi9.2.1
              have hcm9 := hi9.2.2.1
              have HI9 := Lib.hid hi9
              have HNE9 := Lib.hid hne9
              clear hb9 hi9 hL9 hR9 hm9 hne9 h83 h84
              go_wp2
              go_loop [123] (fun i => ∃ u : Nat, i = .int .i64 u ∧ u ≤ m9) (fun i => m9 - (RowKit.intOf i).toNat)
              case atStart => exact ⟨0, rfl, Nat.zero_le _⟩
              case round =>
                obtain ⟨u9, rfl, hu9⟩ := hrel
                by_cases hum : u9 < m9
                · have hii := HI9.out.2.2.2
                  rcases hii with h0 | ⟨b8, off8, rfl, hB8, hcells8⟩
                  · omega
                  obtain ⟨v, hv⟩ : ∃ v, R9.getD u9 0 = v := ⟨_, rfl⟩
                  have hRu : u9 < R9.length := by rw [HM9.out]; exact hum
                  have hvcell := cell_of_ints (Below.refl _ w9) hB8 hcells8 hum hRu hv
                  have hvx := HNE9.out v (getD_mem hRu hv)
                  have hui : (u9 : Int) < (m9 : Int) := by omega
                  have e1 : ((v : Int) == (x : Int)) = false := by rw [beq_eq_false_iff_ne]; omega
                  have e2 : decide ((v : Int) = (x : Int)) = false := by rw [decide_eq_false_iff_not]; omega
                  have e3 : (v == x) = false := by rw [beq_eq_false_iff_ne]; exact hvx
                  have e4 : decide (v = x) = false := by rw [decide_eq_false_iff_not]; exact hvx
                  clear hv hRu hcells8 hvx
                  go_wp2
                  go_round
                  case rel => exact ⟨u9 + 1, by go_num, by omega⟩
                  case measure => simp [RowKit.intOf]; omega
                · have eu : u9 = m9 := by omega
                  subst eu
                  go_wp2
                  go_roundw
                  case rel => exact ⟨t + 1, by go_num, by omega, HB93.out⟩
                  case measure => simp [RowKit.intOf]; omega
        · have et : t = m := by omega
          subst et
          go_wp2
          go_ret
          exact ⟨rfl, HBo.out⟩
end Go.Proofs.Ytnonncjndlcjgaa
