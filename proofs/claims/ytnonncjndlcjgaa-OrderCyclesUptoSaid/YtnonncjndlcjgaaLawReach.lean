/- The law OrderReach, walked: it returns true. -/
import Derived.Test.YtnonncjndlcjgaaLawBehind
namespace Go.Proofs.Ytnonncjndlcjgaa
open Go.RowKit
variable {w : World} {N : List (List Int)}

theorem reach_index (a : Int) {n : Nat} (h : n ≠ 0) (h2 : n ≤ 300) : ∃ k : Nat, k < n ∧ wrap64 ((IntKind.u64.wrap a).tmod n) = (k : Int) := by
  have h0 : 0 ≤ IntKind.u64.wrap a := by
    simp [IntKind.wrap, IntKind.bits, IntKind.signed]
    omega
  obtain ⟨A, hA⟩ : ∃ A, IntKind.u64.wrap a = A := ⟨_, rfl⟩
  rw [hA] at h0 ⊢
  rw [Int.tmod_eq_emod_of_nonneg h0]
  have h3 := Int.emod_nonneg A (show (n : Int) ≠ 0 by omega)
  have h4 := Int.emod_lt_of_pos A (show 0 < (n : Int) by omega)
  refine ⟨(A % n).toNat, by omega, ?_⟩
  rw [IntWalk.wrap64_in _ (by omega)]
  omega

/-- OrderReach's map: the first j of R are in -/
def Marked (w : World) (mb : Nat) (R : List Nat) (j : Nat) (wr : World) : Prop :=
  Below w.heap.size w wr ∧ w.heap.size ≤ mb ∧ SetAt wr mb j (fun y => decide (y ∈ R.take j))
theorem Marked.start (w : World) (R : List Nat) : Marked w w.heap.size R 0 (w.alloc (.map #[] 0)) :=
  ⟨(Below.refl _ _).alloc (Nat.le_refl _) _, Nat.le_refl _, (SetAt.made w).congr (fun k => by simp)⟩
theorem Marked.step {mb j : Nat} {R : List Nat} {wr : World} (h : Marked w mb R j wr) (hj : j < R.length) {x : Nat} (hx : R.getD j 0 = x) (hxb : x ≤ 9223372036854775807) (hjb : j < 9223372036854775807) :
    ∃ w', (Instr.mapUpdate 43 (.map (some mb)) (.int .i64 (x : Nat)) (.bool true)).run Try.prog wr = .ok () w' ∧ Marked w mb R (j + 1) w' := by
  obtain ⟨hb, hmb, hs⟩ := h
  obtain ⟨w', hrun, hs', hg⟩ := hs.put (x := x) hxb hjb
  refine ⟨w', hrun, hb.grown hg hb.size (fun b e => by cases e; exact hmb), hmb, hs'.congr (fun y => ?_)⟩
  rw [Pl.take_succ_getD R j hj, hx]
  by_cases e : y = x
  · simp [e]
  · simp [e]

theorem mem_getD {l : List Nat} {y : Nat} (h : y ∈ l) : ∃ t, t < l.length ∧ l.getD t 0 = y := by
  obtain ⟨i, hi, e⟩ := List.getElem_of_mem h
  exact ⟨i, hi, by simp [List.getD, List.getElem?_eq_getElem hi, e]⟩
theorem cell_of_ints {w w' : World} {b off n : Nat} {R : List Nat} {j : Nat} (hb : Below w.heap.size w w') (hB : b < w.heap.size) (hc : ∀ j, j < n → w.cell? ⟨b, off + j, none⟩ = some (.int .i64 ((R.map Int.ofNat).getD j 0))) (hj : j < n) (hjR : j < R.length) {x : Nat} (hx : R.getD j 0 = x) :
    w'.cell? ⟨b, off + j, none⟩ = some (.int .i64 (x : Nat)) := by
  rw [hb.cell (by exact hB), hc j hj]
  have e : (R.map Int.ofNat).getD j 0 = (x : Nat) := by rw [← hx]; simp [List.getD, List.getElem?_eq_getElem hjR]
  rw [e]


set_option maxRecDepth 100000 in
set_option maxHeartbeats 4000000 in
theorem reachLaw_any {pn : Option Addr} {n cn : Nat} {a : Int} (hneeds : Needs w pn n cn N) (hsmall : N.length + Pl.szs (natM N) N.length ≤ 1048576) (_ha : -9223372036854775808 ≤ a ∧ a ≤ 9223372036854775807) :
    Calls Try.prog 8 #[.slice pn n cn, .int .i64 a] w fun e w' => e = .returned (.bool true) ∧ Below w.heap.size w w' := by
  have BG := Lib.hid (Begin.mk' hneeds hsmall)
  have hn := hneeds.1
  obtain ⟨r, hr⟩ : ∃ r, rightB N = r := ⟨_, rfl⟩
  have HNN : Hid (rightB N = true → NeedsN w pn n cn (natM N)) := Lib.hid fun h => needsN_of hneeds h
  have HN := Lib.hid hn
  have HR := Lib.hid hr
  have hidx := reach_index a (n := n)
  have HIX := Lib.hid hidx
  clear hneeds hsmall hn hr _ha hidx
  go_enter Try.func8, Try.ntmps8
  go_wp2_with fail
  refine (alive_any _).mono ?_
  rintro e w1 ⟨rfl, hb1⟩
  have HB1 := Lib.hid hb1
  clear hb1
  go_wp2_with fail
  refine (BG.out.great _ HB1.out).mono ?_
  rintro e w2 ⟨g, rfl, rfl, hg⟩
  cases g with
  | true =>
    clear hg
    go_wp2_with fail
    refine (alive_any _).mono ?_
    rintro e w3 ⟨rfl, hb3⟩
    have HB3 := Lib.hid hb3
    clear hb3
    go_wp2_with fail
    go_ret
    exact ⟨rfl, HB1.out.trans (HB3.out.mono HB1.out.size)⟩
  | false =>
    have HG := Lib.hid (hg rfl)
    clear hg
    have RR := rright_any (BG.out.needs _ HB1.out)
    rw [HR.out] at RR
    have HRR := Lib.hid RR
    clear RR
    go_wp2_with fail
    refine HRR.out.mono ?_
    rintro e w5 ⟨rfl, rfl⟩
    cases r with
    | false =>
      go_wp2_with fail
      refine (alive_any _).mono ?_
      rintro e w3 ⟨rfl, hb3⟩
      have HB3 := Lib.hid hb3
      clear hb3
      go_wp2_with fail
      go_ret
      exact ⟨rfl, HB1.out.trans (HB3.out.mono HB1.out.size)⟩
    | true =>
      by_cases h0 : n = 0
      · subst h0
        go_wp2_with fail
        refine (alive_any _).mono ?_
        rintro e w3 ⟨rfl, hb3⟩
        have HB3 := Lib.hid hb3
        clear hb3
        go_wp2_with fail
        go_ret
        exact ⟨rfl, HB1.out.trans (HB3.out.mono HB1.out.size)⟩
      · have hz : ((n : Int) == 0) = false := by rw [beq_eq_false_iff_ne]; omega
        have hz2 : decide ((n : Int) = 0) = false := by rw [decide_eq_false_iff_not]; omega
        have hn3 : n ≤ 300 := by have := HG.out; omega
        have hz3 : ((n : Int) == 0) = false := by rw [beq_eq_false_iff_ne]; omega
        obtain ⟨k, hk, hw⟩ := HIX.out h0 hn3
        obtain ⟨u, hu⟩ : ∃ u, IntKind.u64.wrap a = u := ⟨_, rfl⟩
        rw [hu] at hw
        have HW := Lib.hid hw
        clear hw HIX
        go_wp2_with fail
        rw [HW.out]
        clear hu HW
        refine (reach_good (BG.out.needs _ HB1.out) (by have := HG.out; omega) HR.out hk).mono ?_
        rintro e w4 ⟨hb4, R, c, v, hs, rfl, hown⟩
        have HB4 : Hid (Below w.heap.size w w4) := Lib.hid (HB1.out.trans (hb4.mono HB1.out.size))
        obtain ⟨p, cc, hv, hi⟩ := ints_of_own hown
        obtain ⟨hc, S, hS, hRS⟩ : c = 0 ∧ ∃ S, Pl.IsReach (natM N) k S ∧ R = (List.range n).filter S := by
          rcases hs with ⟨h, _⟩ | ⟨_, _, _, h1, S, h2, h3⟩
          · have := HN.out
            rcases h with h | h | h
            · rw [HR.out] at h; cases h
            · omega
            · omega
          · exact ⟨h1, S, by simpa using h2, by rw [HN.out]; exact h3⟩
        subst hv hc
        have hin := natM_in HR.out
        rw [natM_length, ← HN.out] at hin
        have hkR : k ∈ R := by rw [hRS]; exact List.mem_filter.2 ⟨List.mem_range.2 hk, hS.self⟩
        have hRn : ∀ j ∈ R, j < n := fun j hj => by rw [hRS] at hj; exact List.mem_range.1 (List.mem_filter.1 hj).1
        have hRc : ∀ j ∈ R, ∀ y ∈ (natM N).getD j [], y ∈ R := fun j hj y hy => by
          rw [hRS] at hj ⊢
          exact List.mem_filter.2 ⟨List.mem_range.2 (hin j y hy), hS.closed j (List.mem_filter.1 hj).2 y hy⟩
        have hRl : ∀ i j, i < j → j < R.length → R.getD i 0 < R.getD j 0 := fun i j hij hj => by
          rw [hRS] at hj ⊢
          exact Pl.filt_lt hij hj
        have hlone : (natM N).getD k [] = [] → R.length = 1 := fun h => by
          rw [hRS]
          exact hS.lonely h hk
        have hRlen : R.length ≤ n := by rw [hRS]; exact filt_len
        have HIN := Lib.hid hin
        have HKR := Lib.hid hkR
        have HRn := Lib.hid hRn
        have HRc := Lib.hid hRc
        have HRl := Lib.hid hRl
        have HLO := Lib.hid hlone
        have HI := Lib.hid hi
        obtain ⟨m, hm⟩ : ∃ m, R.length = m := ⟨_, rfl⟩
        have HM := Lib.hid hm
        have hcn := hi.2.1
        have hcm := hi.2.2.1
        rw [hm] at HI hcn hRlen ⊢
        have MK0 := Lib.hid (Marked.start w4 R)
        have hmm := @run_makeMap Try.prog
        clear hin hkR hRn hRc hRl hlone hi hm hb4 hs hown hS hRS
        go_wp2
        go_loopw [59] (fun i wr => ∃ j : Nat, i = .int .i64 j ∧ j ≤ m ∧ Marked w4 w4.heap.size R j wr) (fun i _ => m - (RowKit.intOf i).toNat)
        case atStart => exact ⟨0, rfl, Nat.zero_le _, MK0.out⟩
        case round =>
          obtain ⟨j, rfl, hj, hmk⟩ := hrel
          obtain ⟨w5, hw5⟩ : ∃ w5 : World, w5 = wr := ⟨_, rfl⟩
          subst hw5
          clear MK0
          by_cases hlt : j < m
          · have hii := HI.out.2.2.2
            rcases hii with h0 | ⟨b, off, rfl, hB, hcells⟩
            · omega
            obtain ⟨x, hx⟩ : ∃ x, R.getD j 0 = x := ⟨_, rfl⟩
            have hRj : j < R.length := by rw [HM.out]; exact hlt
            have hxn : x < n := HRn.out x (getD_mem hRj hx)
            have hcell := cell_of_ints hmk.1 hB hcells hlt hRj hx
            have hji : (j : Int) < (m : Int) := by omega
            have hxi : (x : Int) < (n : Int) := by omega
            have hx0 : decide ((x : Int) < 0) = false := by rw [decide_eq_false_iff_not]; omega
            have hxg : decide ((n : Int) ≤ (x : Int)) = false := by rw [decide_eq_false_iff_not]; omega
            have hxg' : decide (n ≤ x) = false := by rw [decide_eq_false_iff_not]; omega
            obtain ⟨w6, hrun, hmk6⟩ := hmk.step hRj hx (by omega) (by omega)
            have HP6 := Lib.hid hmk6
            by_cases hj0 : j = 0
            · have hjz : decide (0 < (j : Int)) = false := by rw [decide_eq_false_iff_not]; omega
              have hjz' : decide (0 < j) = false := by rw [decide_eq_false_iff_not]; omega
              clear hmk hcells hx hRj hmk6 hj0
              go_wp2
              go_roundw
              case rel => exact ⟨j + 1, by go_num, by omega, HP6.out⟩
              case measure => simp [RowKit.intOf]; omega
            · obtain ⟨j', hj'⟩ : ∃ j', j = j' + 1 := ⟨j - 1, by omega⟩
              obtain ⟨y, hy⟩ : ∃ y, R.getD j' 0 = y := ⟨_, rfl⟩
              have hcell' := cell_of_ints (j := j') hmk.1 hB hcells (by omega) (by omega) hy
              have hyx : y < x := by rw [← hy, ← hx]; exact HRl.out j' j (by omega) hRj
              have hjp : decide (0 < (j : Int)) = true := by rw [decide_eq_true_eq]; omega
              have hjp' : decide (0 < j) = true := by rw [decide_eq_true_eq]; omega
              have hj1 : IntKind.i64.wrap ((j : Int) - 1) = (j' : Int) := by rw [IntWalk.i64_in _ (by omega)]; omega
              have hj2 : (j : Int) - 1 = (j' : Int) := by omega
              have hj3 : (j' : Int) < (m : Int) := by omega
              have hd1 : decide ((x : Int) ≤ (y : Int)) = false := by rw [decide_eq_false_iff_not]; omega
              have hd2 : decide (x ≤ y) = false := by rw [decide_eq_false_iff_not]; omega
              clear hmk hcells hx hRj hmk6 hj0 hj' hy hyx
              go_wp2
              go_roundw
              case rel => exact ⟨j + 1, by go_num, by omega, HP6.out⟩
              case measure => simp [RowKit.intOf]; omega
          · have ej : j = m := by omega
            subst ej
            have HP := Lib.hid hmk
            obtain ⟨hbp, _, hset⟩ := hmk
            have hlook : ∀ x, x ∈ R → (Instr.lookup 43 (.map (some w4.heap.size)) (.int .i64 (x : Nat)) false).run Try.prog w5 = .ok (.bool true) w5 := fun x hx => by
              have := HRn.out x hx
              have h1 := hset.look (x := x) (by omega)
              rw [decide_eq_true (show x ∈ R.take j by rw [List.take_of_length_le (by rw [HM.out]; exact Nat.le_refl _)]; exact hx)] at h1
              exact h1
            have HLK := Lib.hid hlook
            have HBP := Lib.hid hbp
            have HB5 : Hid (Below w.heap.size w w5) := Lib.hid (HB4.out.trans (hbp.mono HB4.out.size))
            obtain ⟨hnq, hncc, hnmm, hnc⟩ := HNN.out HR.out
            have HNC := Lib.hid hnc
            clear hnq hnc hbp hset hlook hlt
            go_wp2
            go_loop [90] (fun i => ∃ t : Nat, i = .int .i64 t ∧ t ≤ j) (fun i => j - (RowKit.intOf i).toNat)
            case atStart => exact ⟨0, rfl, Nat.zero_le _⟩
            case round =>
              obtain ⟨t, rfl, ht⟩ := hrel
              by_cases htj : t < j
              · have hii := HI.out.2.2.2
                rcases hii with h0 | ⟨b, off, rfl, hB, hcells⟩
                · omega
                have hnc := HNC.out
                rcases hnc with h0 | ⟨b1, off1, rfl, hB1, hcells1⟩
                · omega
                obtain ⟨x, hx⟩ : ∃ x, R.getD t 0 = x := ⟨_, rfl⟩
                have hRt : t < R.length := by rw [HM.out]; exact htj
                have hxR := getD_mem hRt hx
                have hxn : x < n := HRn.out x hxR
                have hcell := cell_of_ints HBP.out hB hcells htj hRt hx
                have hti : (t : Int) < (j : Int) := by omega
                have hxi : (x : Int) < (n : Int) := by omega
                obtain ⟨q, m1, c1, hcell1, hnats⟩ := hcells1 x hxn
                have hcell5 : w5.cell? ⟨b1, off1 + x, none⟩ = some (.slice q m1 c1) := by rw [HB5.out.cell (by exact hB1)]; exact hcell1
                have hmc := hnats.2.1
                have hcm3 := hnats.2.2.1
                have HQ := Lib.hid hnats
                have HXR := Lib.hid hxR
                clear hcells hcells1 hcell1 hnats hx hRt hxR
                go_wp2
                go_loop [99] (fun i => ∃ t : Nat, i = .int .i64 t ∧ t ≤ m1) (fun i => m1 - (RowKit.intOf i).toNat)
                case atStart => exact ⟨0, rfl, Nat.zero_le _⟩
                case round =>
                  obtain ⟨t2, rfl, ht2⟩ := hrel
                  by_cases htm : t2 < m1
                  · have hti2 : (t2 : Int) < (m1 : Int) := by omega
                    have hq := HQ.out.2.2.2
                    rcases hq with h0 | ⟨b2, off2, rfl, hB2, hc2⟩
                    · omega
                    obtain ⟨y, hy⟩ : ∃ y, ((natM N).getD x []).getD t2 0 = y := ⟨_, rfl⟩
                    have hml := HQ.out.1
                    have hym : y ∈ (natM N).getD x [] := getD_mem (by omega) hy
                    have hycell : w5.cell? ⟨b2, off2 + t2, none⟩ = some (.int .i64 (y : Nat)) := by
                      rw [HB5.out.cell (by exact hB2), hc2 t2 htm, hy]
                    have hl1 := HLK.out y (HRc.out x HXR.out y hym)
                    clear hy hml hc2 hym
                    go_wp2
                    go_round
                    case rel => exact ⟨t2 + 1, by go_num, by omega⟩
                    case measure => simp [RowKit.intOf]; omega
                  · have et : t2 = m1 := by omega
                    subst et
                    go_wp2
                    go_round
                    case rel => exact ⟨t + 1, by go_num, by omega⟩
                    case measure => simp [RowKit.intOf]; omega
              · have et : t = j := by omega
                subst et
                have hnc := HNC.out
                rcases hnc with h0 | ⟨b1, off1, rfl, hB1, hcells1⟩
                · omega
                have hki : (k : Int) < (n : Int) := by omega
                obtain ⟨q, m1, c1, hcell1, hnats⟩ := hcells1 k hk
                have hcell5 : w5.cell? ⟨b1, off1 + k, none⟩ = some (.slice q m1 c1) := by rw [HB5.out.cell (by exact hB1)]; exact hcell1
                have hl1 := HLK.out k HKR.out
                have hone : (m1 = 0 ∧ t = 1) ∨ ((m1 : Int) == 0) = false ∧ decide ((m1 : Int) = 0) = false := by
                  by_cases h : m1 = 0
                  · refine Or.inl ⟨h, ?_⟩
                    have := hnats.1
                    rw [← HM.out]
                    exact HLO.out (List.eq_nil_of_length_eq_zero (by omega))
                  · exact Or.inr ⟨by rw [beq_eq_false_iff_ne]; omega, by rw [decide_eq_false_iff_not]; omega⟩
                have ST := stuck_any (BG.out.needs _ HB5.out) (by have := HG.out; omega)
                have HST := Lib.hid ST
                clear hcells1 hcell1 hnats ST
                rcases hone with ⟨h1, h2⟩ | ⟨h1, h2⟩
                all_goals
                  first | (subst h1; subst h2) | skip
                  go_wp2_with fail
                  refine HST.out.mono ?_
                  rintro e w7 ⟨hb7, R2, c2, v2, hs2, rfl, hown2⟩
                  have HB7 : Hid (Below w.heap.size w w7) := Lib.hid (HB5.out.trans (hb7.mono HB5.out.size))
                  obtain ⟨p2, cc2, hv2, hi2⟩ := ints_of_own hown2
                  obtain ⟨hc2, hst⟩ : c2 = 0 ∧ ∀ x ∈ R2, x < n ∧ ∃ y, y ∈ (natM N).getD x [] ∧ y ∈ R2 := by
                    rcases hs2 with ⟨h, _⟩ | ⟨_, h, K, hK, h3⟩
                    · rw [HR.out] at h; cases h
                    · refine ⟨h, fun x hx => ?_⟩
                      rw [h3] at hx
                      obtain ⟨hx1, hx2⟩ := List.mem_filter.1 hx
                      have hxn := List.mem_range.1 hx1
                      obtain ⟨y, hy1, hy2⟩ := hK.stuck_needs (x := x) (by simpa using hxn) (by simpa using hx2)
                      refine ⟨by rw [HN.out]; exact hxn, y, hy1, ?_⟩
                      rw [h3]
                      exact List.mem_filter.2 ⟨List.mem_range.2 (by have := HIN.out x y hy1; rw [← HN.out]; exact this), by simpa using hy2⟩
                  subst hv2 hc2
                  obtain ⟨m2, hm2⟩ : ∃ m2, R2.length = m2 := ⟨_, rfl⟩
                  rw [hm2] at hi2 ⊢
                  have HM2 := Lib.hid hm2
                  have hcn2 := hi2.2.1
                  have hcm2 := hi2.2.2.1
                  have HI2 := Lib.hid hi2
                  have HST2 := Lib.hid hst
                  clear hb7 hs2 hown2 hi2 hst hm2
                  go_wp2
                  go_loop [133] (fun i => ∃ t : Nat, i = .int .i64 t ∧ t ≤ m2) (fun i => m2 - (RowKit.intOf i).toNat)
                  case atStart => exact ⟨0, rfl, Nat.zero_le _⟩
                  case round =>
                    obtain ⟨t3, rfl, ht3⟩ := hrel
                    by_cases htj3 : t3 < m2
                    · have hii := HI2.out.2.2.2
                      rcases hii with h0 | ⟨b3, off3, rfl, hB3, hcells3⟩
                      · omega
                      have hnc := HNC.out
                      rcases hnc with h0 | ⟨b4, off4, hbb, hB4, hcells4⟩
                      · omega
                      cases hbb
                      have HC3 := Lib.hid hcells3
                      obtain ⟨x, hx⟩ : ∃ x, R2.getD t3 0 = x := ⟨_, rfl⟩
                      have hRt : t3 < R2.length := by rw [HM2.out]; exact htj3
                      obtain ⟨hxn, y0, hy0, hy0R⟩ := HST2.out x (getD_mem hRt hx)
                      have hcell := cell_of_ints (Below.refl _ w7) hB3 hcells3 htj3 hRt hx
                      have hti : (t3 : Int) < (m2 : Int) := by omega
                      have hxi : (x : Int) < (n : Int) := by omega
                      have hx0 : decide ((x : Int) < 0) = false := by rw [decide_eq_false_iff_not]; omega
                      have hxg : decide ((n : Int) ≤ (x : Int)) = false := by rw [decide_eq_false_iff_not]; omega
                      have hxg' : decide (n ≤ x) = false := by rw [decide_eq_false_iff_not]; omega
                      obtain ⟨q5, m5, c5, hcell1, hnats⟩ := hcells4 x hxn
                      have hcell7 : w7.cell? ⟨b1, off1 + x, none⟩ = some (.slice q5 m5 c5) := by rw [HB7.out.cell (by exact hB4)]; exact hcell1
                      obtain ⟨l, hl⟩ : ∃ l, (natM N).getD x [] = l := ⟨_, rfl⟩
                      rw [hl] at hnats hy0
                      have hmc5 := hnats.2.1
                      have hcm5 := hnats.2.2.1
                      have HQ := Lib.hid hnats
                      have HY0 := Lib.hid (show y0 ∈ l ∧ y0 ∈ R2 from ⟨hy0, hy0R⟩)
                      clear hcells3 hcells4 hcell1 hnats hx hRt hl hy0 hy0R hcell5 hl1
                      go_wp2
                      go_loop [19, 150] (fun sv i => ∃ (t : Nat) (s : Bool), sv = .bool s ∧ i = .int .i64 t ∧ t ≤ m5 ∧ ∀ t', t' < t → l.getD t' 0 ∈ R2 → s = true) (fun _ i => m5 - (RowKit.intOf i).toNat)
                      case atStart => exact ⟨0, _, rfl, rfl, Nat.zero_le _, fun _ h => absurd h (by omega)⟩
                      case round =>
                        obtain ⟨t5, s5, rfl, rfl, ht5, hs5⟩ := hrel
                        have HS5 := Lib.hid hs5
                        clear hs5
                        by_cases htm : t5 < m5
                        · have hti5 : (t5 : Int) < (m5 : Int) := by omega
                          have hq := HQ.out.2.2.2
                          rcases hq with h0 | ⟨b6, off6, rfl, hB6, hc6⟩
                          · omega
                          obtain ⟨y, hy⟩ : ∃ y, l.getD t5 0 = y := ⟨_, rfl⟩
                          have hycell : w7.cell? ⟨b6, off6 + t5, none⟩ = some (.int .i64 (y : Nat)) := by
                            rw [HB7.out.cell (by exact hB6), hc6 t5 htm, hy]
                          have HY := Lib.hid hy
                          clear hy hc6 hcell hcell7
                          go_wp2
                          go_loop [19, 156] (fun sv i => ∃ (u : Nat) (s : Bool), sv = .bool s ∧ i = .int .i64 u ∧ u ≤ m2 ∧ (s5 = true → s = true) ∧ ∀ u', u' < u → R2.getD u' 0 = y → s = true) (fun _ i => m2 - (RowKit.intOf i).toNat)
                          case atStart => exact ⟨0, _, rfl, rfl, Nat.zero_le _, fun h => h, fun _ h => absurd h (by omega)⟩
                          case round =>
                            obtain ⟨u6, s6, rfl, rfl, hu6, hs61, hs62⟩ := hrel
                            have HS61 := Lib.hid hs61
                            have HS62 := Lib.hid hs62
                            clear hs61 hs62
                            by_cases hum : u6 < m2
                            · obtain ⟨z, hz6⟩ : ∃ z, R2.getD u6 0 = z := ⟨_, rfl⟩
                              have hRu : u6 < R2.length := by rw [HM2.out]; exact hum
                              have hzcell := cell_of_ints (Below.refl _ w7) hB3 HC3.out hum hRu hz6
                              have hui : (u6 : Int) < (m2 : Int) := by omega
                              have HZ6 := Lib.hid hz6
                              clear hz6 hRu hycell
                              cases s6 with
                              | true =>
                                go_wp2
                                go_round
                                case rel => exact ⟨u6 + 1, true, rfl, by go_num, by omega, fun _ => rfl, fun _ _ _ => rfl⟩
                                case measure => simp [RowKit.intOf]; omega
                              | false =>
                                by_cases hyz : y = z
                                · subst hyz
                                  go_wp2
                                  go_round
                                  case rel => exact ⟨u6 + 1, true, rfl, by go_num, by omega, fun _ => rfl, fun _ _ _ => rfl⟩
                                  case measure => simp [RowKit.intOf]; omega
                                · have e1 : ((y : Int) == (z : Int)) = false := by rw [beq_eq_false_iff_ne]; omega
                                  have e2 : decide ((y : Int) = (z : Int)) = false := by rw [decide_eq_false_iff_not]; omega
                                  have e3 : (y == z) = false := by rw [beq_eq_false_iff_ne]; exact hyz
                                  have e4 : decide (y = z) = false := by rw [decide_eq_false_iff_not]; exact hyz
                                  have HYZ := Lib.hid hyz
                                  clear hyz
                                  go_wp2
                                  go_round
                                  case rel => exact ⟨u6 + 1, false, rfl, by go_num, by omega, HS61.out, fun u' hu' h => by
                                    by_cases e : u' = u6
                                    · subst e; exact absurd (h.symm.trans HZ6.out) HYZ.out
                                    · exact HS62.out u' (by omega) h⟩
                                  case measure => simp [RowKit.intOf]; omega
                            · have eu : u6 = m2 := by omega
                              subst eu
                              go_wp2
                              go_round
                              case rel => exact ⟨t5 + 1, s6, rfl, by go_num, by omega, fun t' ht' h => by
                                by_cases e : t' = t5
                                · rw [e, HY.out] at h
                                  obtain ⟨u', hu', hh⟩ := mem_getD h
                                  exact HS62.out u' (by rw [← HM2.out]; exact hu') hh
                                · exact HS61.out (HS5.out t' (by omega) h)⟩
                              case measure => simp [RowKit.intOf]; omega
                        · have et : t5 = m5 := by omega
                          obtain ⟨t', ht', hh⟩ := mem_getD HY0.out.1
                          have hml := HQ.out.1
                          have e5 : s5 = true := HS5.out t' (by omega) (by rw [hh]; exact HY0.out.2)
                          subst e5
                          subst et
                          clear hml hh ht'
                          go_wp2
                          go_round
                          case rel => exact ⟨t3 + 1, by go_num, by omega⟩
                          case measure => simp [RowKit.intOf]; omega
                    · have et : t3 = m2 := by omega
                      subst et
                      go_wp2
                      go_ret
                      exact ⟨rfl, HB7.out⟩
end Go.Proofs.Ytnonncjndlcjgaa
