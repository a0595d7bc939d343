/- The law OrderNames, walked: it returns true. -/
import Derived.Test.YtnonncjndlcjgaaPlNames
import Derived.WalkLawsBesides
import Derived.IntWalk
namespace Go.Proofs.Ytnonncjndlcjgaa
open Go.RowKit
variable {w : World}

theorem needs_made (w : World) (n : Nat) (hn : n ≤ 9223372036854775807) : Needs (w.alloc (.cells (madeCells #[.slice none 0 0] n) 26)) (some ⟨w.heap.size, 0, none⟩) n n (noNeeds n) := by
  have hr := World.rowIs_made w (.slice none 0 0) n 26
  refine ⟨by simp [noNeeds], Nat.le_refl _, hn, ?_⟩
  by_cases h0 : n = 0
  · exact Or.inl h0
  · refine Or.inr ⟨w.heap.size, 0, rfl, hr.lt, fun j hj => ⟨none, 0, 0, by rw [Nat.zero_add]; exact hr.cell hj, ?_⟩⟩
    have e : (noNeeds n).getD j [] = [] := by simp [noNeeds, List.getD, hj]
    rw [e]
    exact ints_nil

/-- the chain, built as far as i -/
structure Chain (W : World) (cb n i : Nat) (wr : World) : Prop where
  below : Below W.heap.size W wr
  cbW : W.heap.size ≤ cb
  row : ∃ vs, wr.rowIs cb 26 n vs ∧ ∀ j, j < n → (j + 1 < i → ∃ g, vs j = .slice (some ⟨g, 0, none⟩) 1 1 ∧ wr.heap[g]? = some (.cells #[.int .i64 ((j + 1 : Nat) : Int)] 3 (0, 0))) ∧ (i ≤ j + 1 → vs j = .slice none 0 0)

theorem Chain.start {W w1 : World} {n : Nat} (hb : Below W.heap.size W w1) : Chain W w1.heap.size n 1 (w1.alloc (.cells (madeCells #[.slice none 0 0] n) 26)) :=
  ⟨hb.alloc hb.size _, hb.size, fun _ => .slice none 0 0, World.rowIs_made w1 _ n 26, fun j _ => ⟨fun h => absurd h (by omega), fun _ => rfl⟩⟩

theorem Chain.step {W wr : World} {cb n i : Nat} (h : Chain W cb n (i + 1) wr) (_hi : i + 1 < n) : Chain W cb n (i + 1 + 1) ((wr.alloc (.cells #[.int .i64 ((i + 1 : Nat) : Int)] 3)).setCell ⟨cb, i, none⟩ (.slice (some ⟨wr.heap.size, 0, none⟩) 1 1)) := by
  obtain ⟨vs, hr, hc⟩ := h.row
  have hcb := hr.lt
  refine ⟨(h.below.alloc h.below.size _).setCell h.cbW _, h.cbW, fun j => if j = i then .slice (some ⟨wr.heap.size, 0, none⟩) 1 1 else vs j, (hr.alloc _).set i _, fun j hj => ⟨fun hji => ?_, fun hji => ?_⟩⟩
  · by_cases e : j = i
    · subst e
      refine ⟨wr.heap.size, by simp, ?_⟩
      rw [heap_setCell_other _ _ _ _ (by show wr.heap.size ≠ cb; omega)]
      exact heap_a wr _
    · obtain ⟨g, h1, h2⟩ := (hc j hj).1 (by omega)
      refine ⟨g, by simp [e, h1], ?_⟩
      have hg := (Array.getElem?_eq_some_iff.1 h2).1
      have hgc : g ≠ cb := by
        intro e2
        obtain ⟨c, hcc, _⟩ := hr
        rw [e2, hcc] at h2
        cases h2
      rw [heap_setCell_other _ _ _ _ (by show g ≠ cb; exact hgc), Below.heap_alloc _ _ _ hg]
      exact h2
  · have e : j ≠ i := by omega
    simp [e, (hc j hj).2 (by omega)]

theorem Chain.needs {W wr : World} {cb n i : Nat} (h : Chain W cb n i wr) (hi : n ≤ i) (hi2 : n ≠ 0 → i ≤ n) (hn : n ≤ 200) : Needs wr (some ⟨cb, 0, none⟩) n n (chainN n) := by
  obtain ⟨vs, hr, hc⟩ := h.row
  refine ⟨by simp, Nat.le_refl _, by omega, ?_⟩
  by_cases h0 : n = 0
  · exact Or.inl h0
  · refine Or.inr ⟨cb, 0, rfl, hr.lt, fun j hj => ?_⟩
    rw [Nat.zero_add, hr.cell hj, chainN_getD n j hj]
    by_cases hj1 : j + 1 < n
    · obtain ⟨g, h1, h2⟩ := (hc j hj).1 (by omega)
      rw [if_pos hj1, h1]
      exact ⟨_, _, _, rfl, ints_block (zs := [((j + 1 : Nat) : Int)]) h2 (fun t ht => by match t, ht with | 0, _ => rfl) (by simp)⟩
    · rw [if_neg hj1, (hc j hj).2 (by have := hi2 h0; omega)]
      exact ⟨_, _, _, rfl, ints_nil⟩

set_option maxRecDepth 100000 in
set_option maxHeartbeats 4000000 in
theorem names_any {ps : Option Addr} {n cs : Nat} {ss : List ByteArray} (hnames : Strs w ps n cs ss) :
    Calls Try.prog 4 #[.slice ps n cs] w fun e w' => e = .returned (.bool true) ∧ Below w.heap.size w w' := by
  obtain ⟨nm, hnm⟩ : ∃ nm : Nat → ByteArray, (fun i => ss.getD i ByteArray.empty) = nm := ⟨_, rfl⟩
  have hcc := strs_cells hnames
  rw [hnm] at hcc
  obtain ⟨hnc, hcm, hcells⟩ := hcc
  by_cases hbig : 200 < n
  · have h3 : (200 : Int) < (n : Int) := by omega
    clear hnames hcells hnm
    go_enter Try.func4, Try.ntmps4
    go_wp2_with fail
    refine (alive_any _).mono ?_
    rintro e w1 ⟨rfl, hb1⟩
    have HB1 := Lib.hid hb1
    clear hb1
    go_wp2_with fail
    refine (alive_any _).mono ?_
    rintro e w3 ⟨rfl, hb3⟩
    have HB3 := Lib.hid hb3
    clear hb3
    go_wp2_with fail
    go_ret
    exact ⟨rfl, HB1.out.trans (HB3.out.mono HB1.out.size)⟩
  · have h3 : (n : Int) ≤ 200 := by omega
    have hn2 : n ≤ 200 := by omega
    have hmk := run_make_row' (P := Try.prog) 23 26 (.slice none 0 0) 24 Try.underlying23 Try.info26 rfl .i64 .i64 n (by omega) (by omega)
    have S1 : Hid (∀ w1, Below w.heap.size w w1 → Calls Try.prog 11 #[.slice ps n cs, .slice (some ⟨w1.heap.size, 0, none⟩) n n] (w1.alloc (.cells (madeCells #[.slice none 0 0] n) 26)) (SortPost nm n (noNeeds n) (w1.alloc (.cells (madeCells #[.slice none 0 0] n) 26)))) := Lib.hid fun w1 hb => by
      have h1 := sort_any (hnames.below (hb.alloc hb.size (.cells (madeCells #[.slice none 0 0] n) 26))) (needs_made w1 n (by omega)) (fun _ => by rw [noNeeds_szs]; omega)
      rw [hnm] at h1
      exact h1
    have S2 : Hid (∀ (cb : Nat) wr, Below w.heap.size w wr → Needs wr (some ⟨cb, 0, none⟩) n n (chainN n) → Calls Try.prog 11 #[.slice ps n cs, .slice (some ⟨cb, 0, none⟩) n n] wr (SortPost nm n (chainN n) wr)) := Lib.hid fun cb wr hb hN => by
      have h1 := sort_any (hnames.below hb) hN (fun _ => by have := chain_szs n n (Nat.le_refl _); omega)
      rw [hnm] at h1
      exact h1
    have HC := Lib.hid hcells
    clear hnames hcells hnm hbig
    go_enter Try.func4, Try.ntmps4
    go_wp2_with fail
    refine (alive_any _).mono ?_
    rintro e w1 ⟨rfl, hb1⟩
    have HB1 := Lib.hid hb1
    clear hb1
    go_wp2_with fail
    refine (S1.out _ HB1.out).mono ?_
    rintro e w3 ⟨hb3, R, c, v, hs, rfl, hown⟩
    have HB3 : Hid (Below w.heap.size w w3) := Lib.hid ((HB1.out.alloc HB1.out.size _).trans (hb3.mono (by have := HB1.out.size; simp; omega)))
    obtain ⟨L, hL, hLc⟩ := hs.order (by simp [noNeeds]) (noNeeds_right n)
    have hLn : L.length = n := by have := done_all (fun j => noNeeds_getD n j) hL; simpa [noNeeds] using this
    obtain ⟨rfl, rfl⟩ : R = L ∧ c = 0 := by
      rcases hLc with ⟨h, _⟩ | ⟨_, h1, h2⟩
      · simp [noNeeds] at h; omega
      · exact ⟨h1, h2⟩
    obtain ⟨p, cc, hv, hi⟩ := ints_of_own hown
    rw [hLn] at hv hi
    subst hv
    have HD := Lib.hid hL
    have HL := Lib.hid hLn
    have hnp := hi.2.1
    have hcp := hi.2.2.1
    have HI := Lib.hid hi.2.2.2
    clear hb3 hs hown hi hLc hL hLn
    go_wp2
    go_loopw [38] (fun i wr => ∃ k q : Nat, i = .int .i64 k ∧ k ≤ n ∧ wr = w3.drewN q) (fun i _ => n - (RowKit.intOf i).toNat)
    case atStart => exact ⟨0, 0, rfl, Nat.zero_le _, rfl⟩
    case round =>
      obtain ⟨k, q, rfl, hk, rfl⟩ := hrel
      by_cases hlt : k < n
      · have hss := HC.out
        have hii := HI.out
        rcases hss with h0 | ⟨bs, offs, rfl, hBs, hscells⟩
        · omega
        rcases hii with h0 | ⟨b, off, rfl, hB, hcells⟩
        · omega
        obtain ⟨x, hx⟩ : ∃ x, R.getD k 0 = x := ⟨_, rfl⟩
        have hRk : k < R.length := by rw [HL.out]; exact hlt
        have hxR : x ∈ R := by rw [← hx]; simp [List.getD, List.getElem?_eq_getElem hRk]
        have hxn : x < n := by
          have := (Pl.Run.nodup _ R rfl HD.out.1).2 x hxR
          simpa [noNeeds] using this
        have hcell : w3.cell? ⟨b, off + k, none⟩ = some (.int .i64 (x : Nat)) := by
          have h1 := hcells k hlt
          have e : (R.map Int.ofNat).getD k 0 = (x : Nat) := by rw [← hx]; simp [List.getD, List.getElem?_eq_getElem hRk]
          rw [e] at h1
          exact h1
        have hki : (k : Int) < (n : Int) := by omega
        have hxi : (x : Int) < (n : Int) := by omega
        have hx0 : decide ((x : Int) < 0) = false := by rw [decide_eq_false_iff_not]; omega
        have hxg : decide ((n : Int) ≤ (x : Int)) = false := by rw [decide_eq_false_iff_not]; omega
        have hxg' : decide (n ≤ x) = false := by rw [decide_eq_false_iff_not]; omega
        have hnx : w3.cell? ⟨bs, offs + x, none⟩ = some (.string (nm x)) := by
          rw [HB3.out.cell (by exact hBs)]; exact hscells x hxn
        obtain ⟨s, hs⟩ : ∃ s, nm x = s := ⟨_, rfl⟩
        rw [hs] at hnx
        by_cases hk0 : k = 0
        · have hkz : decide (0 < (k : Int)) = false := by rw [decide_eq_false_iff_not]; omega
          have hkz' : decide (0 < k) = false := by rw [decide_eq_false_iff_not]; omega
          clear hcells hscells hx hxR hs hRk hk0
          go_wp2
          go_quiet (fail)
          go_wp2
          go_roundw
          case rel => exact ⟨k + 1, _, by go_num, by omega, by first | rfl | exact World.drewN_drewN _ _ _⟩
          case measure => simp [RowKit.intOf]; omega
        · obtain ⟨k', hk'⟩ : ∃ k', k = k' + 1 := ⟨k - 1, by omega⟩
          obtain ⟨y, hy⟩ : ∃ y, R.getD k' 0 = y := ⟨_, rfl⟩
          have hRk' : k' < R.length := by omega
          have hyR : y ∈ R := by rw [← hy]; simp [List.getD, List.getElem?_eq_getElem hRk']
          have hyn : y < n := by
            have := (Pl.Run.nodup _ R rfl HD.out.1).2 y hyR
            simpa [noNeeds] using this
          have hnext := done_next (fun j => noNeeds_getD n j) HD.out (i := k') (by omega)
          rw [← hk', hx, hy] at hnext
          have hT := next_tests hnext.1 hnext.2
          have hcell' : w3.cell? ⟨b, off + k', none⟩ = some (.int .i64 (y : Nat)) := by
            have h1 := hcells k' (by omega)
            have e : (R.map Int.ofNat).getD k' 0 = (y : Nat) := by rw [← hy]; simp [List.getD, List.getElem?_eq_getElem hRk']
            rw [e] at h1
            exact h1
          have hny : w3.cell? ⟨bs, offs + y, none⟩ = some (.string (nm y)) := by
            rw [HB3.out.cell (by exact hBs)]; exact hscells y hyn
          obtain ⟨s', hs'⟩ : ∃ s, nm y = s := ⟨_, rfl⟩
          rw [hs'] at hny
          rw [hs, hs'] at hT
          have hyi : (y : Int) < (n : Int) := by omega
          have hkpos : decide (0 < (k : Int)) = true := by rw [decide_eq_true_eq]; omega
          have hkpos' : decide (0 < k) = true := by rw [decide_eq_true_eq]; omega
          have hk1 : IntKind.i64.wrap ((k : Int) - 1) = (k' : Int) := by rw [IntWalk.i64_in _ (by omega)]; omega
          have hk3 : (k' : Int) < (n : Int) := by omega
          clear hcells hscells hx hxR hs hRk hy hRk' hyR hnext hs' hk0 hk'
          rcases hT with ⟨hT2, hT3⟩ | ⟨hT2, hyx⟩
          · go_wp2
            go_quiet (fail)
            go_wp2
            go_roundw
            case rel => exact ⟨k + 1, _, by go_num, by omega, by first | rfl | exact World.drewN_drewN _ _ _⟩
            case measure => simp [RowKit.intOf]; omega
          · have hyx' : decide ((x : Int) ≤ (y : Int)) = false := by rw [decide_eq_false_iff_not]; omega
            have hyx'' : decide (x ≤ y) = false := by rw [decide_eq_false_iff_not]; omega
            clear hyx
            go_wp2
            go_quiet (fail)
            go_wp2
            go_roundw
            case rel => exact ⟨k + 1, _, by go_num, by omega, by first | rfl | exact World.drewN_drewN _ _ _⟩
            case measure => simp [RowKit.intOf]; omega
      · have ek : k = n := by omega
        subst ek
        have HB3q : Hid (Below w.heap.size w (w3.drewN q)) := Lib.hid ⟨HB3.out.os, HB3.out.tape, HB3.out.output, HB3.out.size, HB3.out.block⟩
        have C0 := Lib.hid (Chain.start (n := k) HB3q.out)
        clear HD HL HI hnp hcp
        go_wp2
        go_loopw [8] (fun i wr => ∃ j : Nat, i = .int .i64 j ∧ 1 ≤ j ∧ (j ≤ k ∨ j = 1) ∧ Chain w w3.heap.size k j wr) (fun i _ => k - (RowKit.intOf i).toNat)
        case atStart => exact ⟨1, rfl, by omega, by omega, C0.out⟩
        case round =>
          obtain ⟨j, rfl, hj1, hj2, hch⟩ := hrel
          obtain ⟨wo, hwo⟩ : ∃ wo : World, wo = wr := ⟨_, rfl⟩
          subst hwo
          clear C0
          by_cases hjk : j < k
          · obtain ⟨j', hj'⟩ : ∃ j', j = j' + 1 := ⟨j - 1, by omega⟩
            have hj3 : (j : Int) - 1 = (j' : Int) := by omega
            have hj4 : (j' : Int) < (k : Int) := by omega
            obtain ⟨vs, hrow, hvs⟩ := hch.row
            obtain ⟨v0, hv0⟩ : ∃ v0, vs j' = v0 := ⟨_, rfl⟩
            have hcell : ∀ o, (wo.alloc o).cell? ⟨w3.heap.size, j', none⟩ = some v0 := fun o => by rw [← hv0]; exact (hrow.alloc o).cell (by omega)
            have hfr : ∀ o, (wo.alloc o).frozen? ⟨w3.heap.size, j', none⟩ = false := fun o => (hrow.alloc o).frozen j'
            have ST := (hj' ▸ hch).step (by omega)
            rw [← hj'] at ST
            have HST := Lib.hid ST
            clear hrow hvs hv0 ST hch hj'
            go_wp2
            go_roundw
            case rel => exact ⟨j + 1, by go_num, by omega, by omega, HST.out⟩
            case measure => simp [RowKit.intOf]; omega
          · have hjk2 : (k : Int) ≤ (j : Int) := by omega
            have hN := hch.needs (by omega) (fun h => by omega) (by omega)
            have C2 := Lib.hid (S2.out w3.heap.size wo hch.below hN)
            have HBo := Lib.hid hch.below
            clear hN hch S2 S1 hjk
            go_wp2_with fail
            refine C2.out.mono ?_
            rintro e w5 ⟨hb5, R5, c5, v5, hs5, rfl, hown5⟩
            obtain ⟨rfl, rfl⟩ := hs5.done (by simp) (chainN_right k) (chain_done nm k) (by simp)
            obtain ⟨p5, cc5, hv5, hi5⟩ := ints_of_own hown5
            rw [down_length] at hv5 hi5
            subst hv5
            have HB5 : Hid (Below w.heap.size w w5) := Lib.hid (HBo.out.trans (hb5.mono HBo.out.size))
            have hnp5 := hi5.2.1
            have hcp5 := hi5.2.2.1
            have HI5 := Lib.hid hi5.2.2.2
            clear hb5 hs5 hown5 hi5
            go_wp2
            go_loop [127] (fun i => ∃ t : Nat, i = .int .i64 t ∧ t ≤ k) (fun i => k - (RowKit.intOf i).toNat)
            case atStart => exact ⟨0, rfl, Nat.zero_le _⟩
            case round =>
              obtain ⟨t, rfl, ht⟩ := hrel
              by_cases htk : t < k
              · have hii := HI5.out
                rcases hii with h0 | ⟨b, off, rfl, hB, hcells⟩
                · omega
                obtain ⟨x, hx⟩ : ∃ x, k - 1 - t = x := ⟨_, rfl⟩
                have hcell : w5.cell? ⟨b, off + t, none⟩ = some (.int .i64 (x : Nat)) := by
                  have h1 := hcells t htk
                  have e : ((down k).map Int.ofNat).getD t 0 = (x : Nat) := by
                    have h2 := down_getD k t htk
                    rw [hx] at h2
                    rw [← h2]
                    simp [List.getD, htk]
                  rw [e] at h1
                  exact h1
                have hne : ((x : Int) != ((k : Int) - 1 - (t : Int))) = false := by
                  rw [bne_eq_false_iff_eq]; omega
                have htk2 : (t : Int) < (k : Int) := by omega
                clear hcells hx
                go_wp2
                go_round
                case rel => exact ⟨t + 1, by go_num, by omega⟩
                case measure => simp [RowKit.intOf]; omega
              · have et : t = k := by omega
                subst et
                go_wp2
                go_ret
                exact ⟨rfl, HB5.out⟩
end Go.Proofs.Ytnonncjndlcjgaa
