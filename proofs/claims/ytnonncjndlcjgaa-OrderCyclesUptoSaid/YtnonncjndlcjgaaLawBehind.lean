/- The law OrderBehind, walked: it returns true. -/
import Derived.Test.YtnonncjndlcjgaaLawStuck
import Derived.Test.YtnonncjndlcjgaaPlStand
namespace Go.Proofs.Ytnonncjndlcjgaa
open Go.RowKit
variable {w : World} {N : List (List Int)}

theorem getD_mem {l : List Nat} {t y : Nat} (ht : t < l.length) (hy : l.getD t 0 = y) : y ∈ l := by
  rw [← hy]; simp [List.getD, List.getElem?_eq_getElem ht]

theorem NumAt.congr {b n : Nat} {S S' : Nat → Bool} {f : Nat → Nat} (h : NumAt w b n S f) (e : ∀ k, S k = S' k) : NumAt w b n S' f := by
  have : S = S' := funext e
  rw [← this]; exact h
theorem NumAt.below {b n : Nat} {S : Nat → Bool} {f : Nat → Nat} {w' : World} {B : Nat} (h : NumAt w b n S f) (hb : Below B w w') (hB : b < B) : NumAt w' b n S f := by
  obtain ⟨D, ⟨es, clock, h1, r⟩, h2⟩ := h
  exact ⟨D, ⟨es, clock, by rw [hb.block b hB]; exact h1, r⟩, h2⟩

/-- OrderBehind's first loop: the first k of L are in the map, each at its place -/
def Placed (w : World) (mb : Nat) (L : List Nat) (k : Nat) (wr : World) : Prop :=
  Below w.heap.size w wr ∧ w.heap.size ≤ mb ∧ ∃ f, NumAt wr mb k (fun j => decide (j ∈ L.take k)) f ∧ Pl.Stands L k f
theorem Placed.start (w : World) (L : List Nat) : Placed w w.heap.size L 0 (w.alloc (.map #[] 0)) :=
  ⟨(Below.refl _ _).alloc (Nat.le_refl _) _, Nat.le_refl _, _, (NumAt.made w).congr (fun k => by simp), fun i hi => absurd hi (by omega)⟩

theorem Placed.step {mb k : Nat} {L : List Nat} {wr : World} {lt : Nat → Nat → Bool} {M : List (List Nat)} (h : Placed w mb L k wr) (hr : Pl.Run lt M L) (hk : k < L.length) {x : Nat} (hx : L.getD k 0 = x)
    (hxb : x ≤ 9223372036854775807) (hkb : k < 9223372036854775807) :
    (∃ v, (Instr.lookup 36 (.map (some mb)) (.int .i64 (x : Nat)) true).run Try.prog wr = .ok (.tuple #[v, .bool false]) wr) ∧
    ∃ w', (Instr.mapUpdate 36 (.map (some mb)) (.int .i64 (x : Nat)) (.int .i64 (k : Nat))).run Try.prog wr = .ok () w' ∧ Placed w mb L (k + 1) w' := by
  obtain ⟨hb, hmb, f, hn, hs⟩ := h
  have hf := (hr.fresh hk).1
  rw [hx] at hf
  refine ⟨?_, ?_⟩
  · obtain ⟨v, hv⟩ := hn.look_ok (x := x) hxb
    rw [decide_eq_false hf] at hv
    exact ⟨v, hv⟩
  · obtain ⟨w', hrun, hn', hg⟩ := hn.put (x := x) (y := k) hxb (by omega) hkb
    refine ⟨w', hrun, hb.grown hg hb.size (fun b e => by cases e; exact hmb), hmb, _, hn'.congr (fun j => ?_), by rw [← hx]; exact hs.step hr hk⟩
    rw [Pl.take_succ_getD L k hk, hx]
    by_cases e : j = x
    · simp [e]
    · simp [e]

set_option maxRecDepth 100000 in
set_option maxHeartbeats 4000000 in
theorem behind_any {ps pn : Option Addr} {ns cs n cn : Nat} {ss : List ByteArray} (hnames : Strs w ps ns cs ss) (hneeds : Needs w pn n cn N) (hsmall : N.length + Pl.szs (natM N) N.length ≤ 1048576) :
    Calls Try.prog 5 #[.slice ps ns cs, .slice pn n cn] w fun e w' => e = .returned (.bool true) ∧ Below w.heap.size w w' := by
  have BG := Lib.hid (Begin.mk' hneeds hsmall)
  have hn := hneeds.1
  obtain ⟨r, hr⟩ : ∃ r, rightB N = r := ⟨_, rfl⟩
  have S1 := Lib.hid fun (w1 : World) (hb : Below w.heap.size w w1) hs => sort_any (hnames.below hb) (hneeds.below hb) hs
  have HNN : Hid (rightB N = true → NeedsN w pn n cn (natM N)) := Lib.hid fun h => needsN_of hneeds h
  have HN := Lib.hid hn
  have HR := Lib.hid hr
  clear hneeds hsmall hn hr hnames
  go_enter Try.func5, Try.ntmps5
  go_wp2_with fail
  refine (alive_any _).mono ?_
  rintro e w1 ⟨rfl, hb1⟩
  have HB1 := Lib.hid hb1
  clear hb1
  go_wp2_with fail
  refine (BG.out.great _ HB1.out).mono ?_
  rintro e w2 ⟨g, rfl, rfl, hg⟩
  cases g with
  | true =>
    clear hg
    go_wp2_with fail
    refine (alive_any _).mono ?_
    rintro e w3 ⟨rfl, hb3⟩
    have HB3 := Lib.hid hb3
    clear hb3
    go_wp2_with fail
    go_ret
    exact ⟨rfl, HB1.out.trans (HB3.out.mono HB1.out.size)⟩
  | false =>
    have HG := Lib.hid (hg rfl)
    clear hg
    by_cases hne : ns = n
    · subst hne
      have hne' : ((ns : Int) != (ns : Int)) = false := by simp
      have RR := rright_any (BG.out.needs _ HB1.out)
      rw [HR.out] at RR
      have HRR := Lib.hid RR
      clear RR
      go_wp2_with fail
      refine HRR.out.mono ?_
      rintro e w5 ⟨rfl, rfl⟩
      cases r with
      | false =>
        go_wp2_with fail
        refine (alive_any _).mono ?_
        rintro e w3 ⟨rfl, hb3⟩
        have HB3 := Lib.hid hb3
        clear hb3
        go_wp2_with fail
        go_ret
        exact ⟨rfl, HB1.out.trans (HB3.out.mono HB1.out.size)⟩
      | true =>
        go_wp2_with fail
        refine (S1.out _ HB1.out (fun _ => by have := HG.out; omega)).mono ?_
        rintro e w3 ⟨hb3, R, c, v, hs, rfl, hown⟩
        have HB3 : Hid (Below w.heap.size w w3) := Lib.hid (HB1.out.trans (hb3.mono HB1.out.size))
        obtain ⟨p, cc, hv, hi⟩ := ints_of_own hown
        obtain ⟨L, hL, hLc⟩ : ∃ L, Pl.Done (ltN (fun i => ss.getD i ByteArray.empty)) (natM N) L ∧ ((L.length < ns ∧ R = [] ∧ c = 16) ∨ (ns ≤ L.length ∧ R = L ∧ c = 0)) := by
          rcases hs with ⟨h1, _⟩ | ⟨_, h1, _⟩ | ⟨h0, _, L, hL, h2⟩
          · exact absurd HN.out h1
          · rw [HR.out] at h1; cases h1
          · exact ⟨L, hL, by rw [h0]; exact h2⟩
        subst hv
        have HL := Lib.hid hL
        have HI := Lib.hid hi
        clear hb3 hs hown hi hL
        go_wp2_with fail
        refine (stuck_any (BG.out.needs _ HB3.out) (by have := HG.out; omega)).mono ?_
        rintro e w4 ⟨hb4, R', c', v', hs', rfl, hown'⟩
        have HB4 : Hid (Below w.heap.size w w4) := Lib.hid (HB3.out.trans (hb4.mono HB3.out.size))
        obtain ⟨p', cc', hv', hi'⟩ := ints_of_own hown'
        obtain ⟨hc', hz⟩ : c' = 0 ∧ (R'.length = 0 ↔ ns ≤ L.length) := by
          rcases hs' with ⟨h1, _⟩ | ⟨_, h1, K, hK, h2⟩
          · rw [HR.out] at h1; cases h1
          · refine ⟨h1, ?_⟩
            rw [h2, ← HN.out]
            exact Pl.stuck_none (by rw [natM_length]; exact HN.out) HL.out hK
        obtain ⟨sl, hsl⟩ : ∃ sl, R'.length = sl := ⟨_, rfl⟩
        rw [hsl] at hv' hz
        subst hv' hc'
        have HI4 : Hid (Ints w4 p R.length cc (R.map Int.ofNat)) := Lib.hid (HI.out.below hb4)
        clear hb4 hs' hown' hi' hsl
        rcases hLc with ⟨h1, rfl, rfl⟩ | ⟨h1, rfl, rfl⟩
        · have hsl0 : ((sl : Int) == 0) = false := by
            rw [beq_eq_false_iff_ne]
            have := mt hz.1 (by omega)
            omega
          have hsl1 : decide ((sl : Int) = 0) = false := by
            rw [decide_eq_false_iff_not]
            have := mt hz.1 (by omega)
            omega
          clear hz h1
          go_wp2
          go_ret
          exact ⟨rfl, HB4.out⟩
        · have hsl0 := hz.2 h1
          subst hsl0
          clear hz
          have hnd := Pl.Run.nodup _ R rfl HL.out.1
          have hRn : R.length = ns := by
            have h2 := nodup_le hnd.1 (n := ns) (fun j hj => by have := hnd.2 j hj; rw [natM_length, ← HN.out] at this; exact this)
            omega
          have hns : ns ≤ 300 := by have := HG.out; omega
          have PL0 := Lib.hid (Placed.start w4 R)
          have HRN := Lib.hid hRn
          rw [hRn] at HI4 ⊢
          clear h1 hnd
          have hmm := @run_makeMap Try.prog
          have hcn := HI4.out.2.1
          have hcm := HI4.out.2.2.1
          clear hRn
          go_wp2
          go_loopw [76] (fun i wr => ∃ k : Nat, i = .int .i64 k ∧ k ≤ ns ∧ Placed w4 w4.heap.size R k wr) (fun i _ => ns - (RowKit.intOf i).toNat)
          case atStart => exact ⟨0, rfl, Nat.zero_le _, PL0.out⟩
          case round =>
            obtain ⟨k, rfl, hk, hpl⟩ := hrel
            obtain ⟨w5, hw5⟩ : ∃ w5 : World, w5 = wr := ⟨_, rfl⟩
            subst hw5
            clear PL0
            by_cases hlt : k < ns
            · have hii := HI4.out.2.2.2
              rcases hii with h0 | ⟨b, off, rfl, hB, hcells⟩
              · omega
              obtain ⟨x, hx⟩ : ∃ x, R.getD k 0 = x := ⟨_, rfl⟩
              have hRk : k < R.length := by rw [HRN.out]; exact hlt
              have hxn : x < ns := by
                have := (HL.out.1.fresh hRk).2
                rw [hx, natM_length, ← HN.out] at this
                exact this
              have hcell : w5.cell? ⟨b, off + k, none⟩ = some (.int .i64 (x : Nat)) := by
                rw [hpl.1.cell (by exact hB), hcells k hlt]
                have e : (R.map Int.ofNat).getD k 0 = (x : Nat) := by rw [← hx]; simp [List.getD, List.getElem?_eq_getElem hRk]
                rw [e]
              have hki : (k : Int) < (ns : Int) := by omega
              have hxi : (x : Int) < (ns : Int) := by omega
              have hx0 : decide ((x : Int) < 0) = false := by rw [decide_eq_false_iff_not]; omega
              have hxg : decide ((ns : Int) ≤ (x : Int)) = false := by rw [decide_eq_false_iff_not]; omega
              have hxg' : decide (ns ≤ x) = false := by rw [decide_eq_false_iff_not]; omega
              obtain ⟨⟨vl, hlook⟩, w6, hrun, hpl6⟩ := hpl.step HL.out.1 hRk hx (by omega) (by omega)
              have HP6 := Lib.hid hpl6
              clear hpl hcells hx hRk hpl6
              go_wp2
              go_roundw
              case rel => exact ⟨k + 1, by go_num, by omega, HP6.out⟩
              case measure => simp [RowKit.intOf]; omega
            · have ek : k = ns := by omega
              subst ek
              have HP := Lib.hid hpl
              clear hpl hlt
              obtain ⟨hbp, _, f, hnum, hst⟩ := HP.out
              have hnn := HNN.out HR.out
              rw [← HRN.out] at hst
              have hlook : ∀ x, x < k → (Instr.lookup 36 (.map (some w4.heap.size)) (.int .i64 (x : Nat)) false).run Try.prog w5 = .ok (.int .i64 (f x : Nat)) w5 := fun x hx => by
                have h1 := hnum.look (x := x) (by omega)
                have hnd := Pl.Run.nodup _ R rfl HL.out.1
                have hm : x ∈ R.take k := by
                  rw [List.take_of_length_le (by rw [HRN.out]; exact Nat.le_refl _)]
                  exact Pl.full_all hnd.1 (n := k) (fun j hj => by have := hnd.2 j hj; rw [natM_length, ← HN.out] at this; exact this) (by rw [HRN.out]; exact Nat.le_refl _) x hx
                rw [decide_eq_true hm] at h1
                exact h1
              have hbeh : ∀ j, j < k → ∀ y ∈ (natM N).getD j [], f y < f j := fun j hj y hy => by
                have hnd := Pl.Run.nodup _ R rfl HL.out.1
                exact hst.behind HL.out.1 (Pl.full_all hnd.1 (n := k) (fun j hj => by have := hnd.2 j hj; rw [natM_length, ← HN.out] at this; exact this) (by rw [HRN.out]; exact Nat.le_refl _) j hj) hy
              have hin := natM_in HR.out
              rw [natM_length, ← HN.out] at hin
              have hB5 : Below w.heap.size w w5 := HB4.out.trans (hbp.mono HB4.out.size)
              have HLK := Lib.hid hlook
              have HBH := Lib.hid hbeh
              have HIN := Lib.hid hin
              have HB5 := Lib.hid hB5
              obtain ⟨hnq, hncc, hnmm, hnc⟩ := hnn
              clear hnq
              have HNC := Lib.hid hnc
              clear hbp hnum hst hlook hbeh hin hB5 hnc
              go_wp2
              go_loop [102] (fun i => ∃ j : Nat, i = .int .i64 j ∧ j ≤ k) (fun i => k - (RowKit.intOf i).toNat)
              case atStart => exact ⟨0, rfl, Nat.zero_le _⟩
              case round =>
                obtain ⟨j, rfl, hj⟩ := hrel
                by_cases hjk : j < k
                · have hji : (j : Int) < (k : Int) := by omega
                  have hnc := HNC.out
                  rcases hnc with h0 | ⟨b, off, rfl, hB, hcells⟩
                  · omega
                  obtain ⟨q, m, c, hcell, hnats⟩ := hcells j hjk
                  have hcell5 : w5.cell? ⟨b, off + j, none⟩ = some (.slice q m c) := by rw [HB5.out.cell (by exact hB)]; exact hcell
                  have hmc := hnats.2.1
                  have hcm3 := hnats.2.2.1
                  have HQ := Lib.hid hnats
                  clear hcells hcell hnats
                  go_wp2
                  go_loop [109] (fun i => ∃ t : Nat, i = .int .i64 t ∧ t ≤ m) (fun i => m - (RowKit.intOf i).toNat)
                  case atStart => exact ⟨0, rfl, Nat.zero_le _⟩
                  case round =>
                    obtain ⟨t, rfl, ht⟩ := hrel
                    by_cases htm : t < m
                    · have hti : (t : Int) < (m : Int) := by omega
                      have hq := HQ.out.2.2.2
                      rcases hq with h0 | ⟨b2, off2, rfl, hB2, hc2⟩
                      · omega
                      obtain ⟨y, hy⟩ : ∃ y, ((natM N).getD j []).getD t 0 = y := ⟨_, rfl⟩
                      have hml := HQ.out.1
                      have hym : y ∈ (natM N).getD j [] := getD_mem (by omega) hy
                      have hyk := HIN.out j y hym
                      have hycell : w5.cell? ⟨b2, off2 + t, none⟩ = some (.int .i64 (y : Nat)) := by
                        rw [HB5.out.cell (by exact hB2), hc2 t htm, hy]
                      have hl1 := HLK.out y hyk
                      have hl2 := HLK.out j hjk
                      have hlt2 := HBH.out j hjk y hym
                      obtain ⟨fy, hfy⟩ : ∃ fy, f y = fy := ⟨_, rfl⟩
                      obtain ⟨fj, hfj⟩ : ∃ fj, f j = fj := ⟨_, rfl⟩
                      rw [hfy] at hl1 hlt2
                      rw [hfj] at hl2 hlt2
                      have hd1 : decide ((fj : Int) ≤ (fy : Int)) = false := by rw [decide_eq_false_iff_not]; omega
                      have hd2 : decide (fj ≤ fy) = false := by rw [decide_eq_false_iff_not]; omega
                      clear hy hml hc2 hfy hfj hlt2
                      go_wp2
                      go_round
                      case rel => exact ⟨t + 1, by go_num, by omega⟩
                      case measure => simp [RowKit.intOf]; omega
                    · have et : t = m := by omega
                      subst et
                      go_wp2
                      go_round
                      case rel => exact ⟨j + 1, by go_num, by omega⟩
                      case measure => simp [RowKit.intOf]; omega
                · have ej : j = k := by omega
                  subst ej
                  go_wp2
                  go_ret
                  exact ⟨rfl, HB5.out⟩
    · have hne' : ((ns : Int) != (n : Int)) = true := by rw [bne_iff_ne]; omega
      go_wp2_with fail
      refine (alive_any _).mono ?_
      rintro e w3 ⟨rfl, hb3⟩
      have HB3 := Lib.hid hb3
      clear hb3
      go_wp2_with fail
      go_ret
      exact ⟨rfl, HB1.out.trans (HB3.out.mono HB1.out.size)⟩
end Go.Proofs.Ytnonncjndlcjgaa
