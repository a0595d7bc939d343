/- order.lay. -/
import Derived.Test.YtnonncjndlcjgaaLayB
namespace Go.Proofs.Ytnonncjndlcjgaa
open Go.RowKit

theorem Try.info3 : (Try.prog.info? 3).map (fun i => (i.zero, i.size, i.bytes)) = some (some (.int .i64 0), 1, 8) := by kernel_rfl
theorem Try.info26 : (Try.prog.info? 26).map (fun i => (i.zero, i.size, i.bytes)) = some (some (.slice none 0 0), 1, 24) := by kernel_rfl

/-- a slice of int that holds these numbers -/
def Nats (w : World) (p : Option Addr) (n cap : Nat) (l : List Nat) : Prop :=
  n = l.length ∧ n ≤ cap ∧ cap ≤ 9223372036854775807 ∧ (n = 0 ∨ ∃ b off, p = some ⟨b, off, none⟩ ∧ b < w.heap.size ∧ ∀ j, j < n → w.cell? ⟨b, off + j, none⟩ = some (.int .i64 (l.getD j 0 : Nat)))
/-- a slice of slices of int -/
def NeedsN (w : World) (p : Option Addr) (n cap : Nat) (M : List (List Nat)) : Prop :=
  n = M.length ∧ n ≤ cap ∧ cap ≤ 9223372036854775807 ∧ (n = 0 ∨ ∃ b off, p = some ⟨b, off, none⟩ ∧ b < w.heap.size ∧ ∀ j, j < n → ∃ q m c, w.cell? ⟨b, off + j, none⟩ = some (.slice q m c) ∧ Nats w q m c (M.getD j []))

theorem news_two (w : World) (o : Obj) (u : Value) (T : TypeId) : ∀ j z, ([u] : List Value)[j]? = some z → ((w.alloc o).alloc (.cells #[u] T)).cell? ((⟨w.heap.size + 1, 0, none⟩ : Addr).add j) = some z :=
  World.news_of_block (cs := #[u]) (t := T) (fr := (0, 0)) (by
    have h := heap_alloc_new (w.alloc o) (.cells #[u] T)
    have e : (w.alloc o).heap.size = w.heap.size + 1 := by simp
    rw [e] at h
    exact h)

theorem box_kept {w w' : World} {base e size m : Nat} {v u z : Value} {xs : List Value} {T : TypeId} {o1 : Obj} (h : w.ownsRow base e size v m xs) (hg : ((w.alloc (.cells #[u, z] T)).alloc o1).grownBy w' v.ownBlock) : w'.cell? ⟨w.heap.size, 1, none⟩ = some z := by
  have h1 : w'.heap[w.heap.size]? = some (.cells #[u, z] T (0, 0)) := by
    rw [hg.block _ (by simp; omega) (fun e => by have := (h.lt _ e.symm).2; omega), Below.heap_alloc _ _ _ (by simp)]
    exact heap_alloc_new w _
  rw [cell_of_row w' _ 1 _ _ _ h1]; rfl

def LayPost (nm : Nat → ByteArray) (M : List (List Nat)) (w : World) (e : Ending) (w' : World) : Prop :=
  Below w.heap.size w w' ∧ ∃ L v, e = .returned v ∧ Pl.Done (ltN nm) M L ∧ w'.ownsRow w.heap.size 3 1 v L.length (intsV L)

set_option maxRecDepth 100000 in
set_option maxHeartbeats 4000000 in
theorem lay_any {ps pn : Option Addr} {n cs cn : Nat} {M : List (List Nat)} {nm : Nat → ByteArray} {w : World} (hneeds : NeedsN w pn n cn M)
    (hsc : n ≤ cs) (hscm : cs ≤ 9223372036854775807) (hscells : n = 0 ∨ ∃ b off, ps = some ⟨b, off, none⟩ ∧ b < w.heap.size ∧ ∀ j, j < n → w.cell? ⟨b, off + j, none⟩ = some (.string (nm j)))
    (hin : ∀ j k, k ∈ M.getD j [] → k < M.length) (hsz : M.length + Pl.szs M M.length ≤ 1000000) :
    Calls Try.prog 20 #[.slice ps n cs, .slice pn n cn] w (LayPost nm M w) := by
  obtain ⟨hn, hnc, hcm, hcells⟩ := hneeds
  have hn6 : n ≤ 1000000 := by omega
  have hmk1 := run_make_row' (P := Try.prog) 26 3 (.int .i64 0) 8 Try.underlying26 Try.info3 rfl .i64 .i64 n (by omega) (by omega)
  have hmk2 := run_make_row' (P := Try.prog) 23 26 (.slice none 0 0) 24 Try.underlying23 Try.info26 rfl .i64 .i64 n (by omega) (by omega)
  obtain ⟨i3, hi3, hz30, hz31, hz32⟩ := info_parts Try.info3
  have HI := Lib.hid hi3
  have HZ0 := Lib.hid hz30
  have HZ1 := Lib.hid hz31
  have HZ2 := Lib.hid hz32
  clear hi3 hz30 hz31 hz32
  have HC := Lib.hid hcells
  have HS := Lib.hid hscells
  have HN := Lib.hid hn
  have HSZ := Lib.hid hsz
  have HIN := Lib.hid hin
  have hP0 := ph1_start nm M w n
  have HP0 := Lib.hid hP0
  clear hcells hscells hn hsz hin hP0
  go_enter Try.func20, Try.ntmps20
  go_wp2
  clear hmk1 hmk2
  go_loopw [26] (fun i wr => ∃ k : Nat, i = .int .i64 k ∧ k ≤ n ∧ Ph1 nm M w n k wr) (fun i _ => n - (RowKit.intOf i).toNat)
  case atStart => exact ⟨0, rfl, Nat.zero_le _, HP0.out⟩
  case round =>
    obtain ⟨k, rfl, hk, hph⟩ := hrel
    have HPH := Lib.hid hph
    clear hph HP0
    obtain ⟨wo, hwo⟩ : ∃ wo : World, wo = wr := ⟨_, rfl⟩
    subst hwo
    by_cases hlt : k < n
    · have hcs := HC.out
      have hss := HS.out
      rcases hcs with h0 | ⟨b, off, rfl, hB, hcells⟩
      · omega
      rcases hss with h0 | ⟨bs, offs, rfl, hBs, hscells⟩
      · omega
      obtain ⟨q, m, c, hcell, hm, hmc, hcm2, hqcells⟩ := hcells k hlt
      have hscell := hscells k hlt
      obtain ⟨l, hl⟩ : ∃ l, M.getD k [] = l := ⟨_, rfl⟩
      rw [hl] at hm hqcells
      have hstore := ph1_store HPH.out
      rw [hl, ← hm] at hstore
      obtain ⟨H0, hs0, _⟩ := HPH.out
      have hcellr : wo.cell? ⟨b, off + k, none⟩ = some (.slice q m c) := by rw [hs0.below.cell (by exact hB)]; exact hcell
      obtain ⟨v0, hv0⟩ : ∃ v0, wo.cell? ⟨w.heap.size, k, none⟩ = some v0 := ⟨_, hs0.lacks.cell hlt⟩
      have hfr : wo.frozen? ⟨w.heap.size, k, none⟩ = false := hs0.lacks.frozen k
      have HST := Lib.hid hstore
      have HL := Lib.hid hl
      have HM := Lib.hid hm
      have HQC := Lib.hid hqcells
      have HSC := Lib.hid hscell
      clear hcells hscells hcell hl hm hstore hs0 hqcells hscell
      go_wp2
      go_loopw [38] (fun i w2 => ∃ t : Nat, i = .int .i64 t ∧ t ≤ m ∧ Ph1in nm M w n k l t w2) (fun i _ => m - (RowKit.intOf i).toNat)
      case atStart => exact ⟨0, rfl, Nat.zero_le _, HST.out⟩
      case round =>
        obtain ⟨t, rfl, ht, hpi⟩ := hrel
        obtain ⟨w2, hw2⟩ : ∃ w2 : World, w2 = wr := ⟨_, rfl⟩
        subst hw2
        by_cases hlt2 : t < m
        · have hq2 := HQC.out
          rcases hq2 with h0 | ⟨b2, off2, rfl, hB2, hc2⟩
          · omega
          obtain ⟨H, hs, h1, h2, h3⟩ := hpi
          obtain ⟨vs, hu⟩ := hs.users
          obtain ⟨x, hx⟩ : ∃ x, l.getD t 0 = x := ⟨_, rfl⟩
          have htl : t < l.length := by have := HM.out; omega
          have hxn : x < n := by
            have hmem : x ∈ l := by rw [← hx]; simp [List.getD, List.getElem?_eq_getElem htl]
            have := HIN.out k x (by rw [HL.out]; exact hmem)
            have := HN.out
            omega
          have hxi : (x : Int) < (n : Int) := by omega
          have hcell2 := hc2 t hlt2
          rw [hx] at hcell2
          have hcell2r : w2.cell? ⟨b2, off2 + t, none⟩ = some (.int .i64 (x : Nat)) := by rw [hs.below.cell (by exact hB2)]; exact hcell2
          obtain ⟨v, hv⟩ : ∃ v, vs x = v := ⟨_, rfl⟩
          have hucell := hu.row.cell hxn
          rw [hv] at hucell
          obtain ⟨U, hU⟩ : ∃ U, Pl.usr M x k ++ List.replicate ((l.take t).count x) k = U := ⟨_, rfl⟩
          have hUl : U.length ≤ 1000000 := by
            have a1 := Pl.usr_length M x k
            have a2 := List.count_le_length (a := x) (l := l.take t)
            have a3 := Pl.szs_mono M (i := k + 1) (k := M.length) (by have := HN.out; omega)
            have a4 : (l.take t).length ≤ l.length := by simp; omega
            have a5 := HSZ.out
            simp only [Pl.szs, HL.out] at a3
            rw [← hU, List.length_append, List.length_replicate]
            omega
          have huown : w2.ownsRow (w.heap.size + 1 + 1 + 1 + 1) 3 1 v U.length (intsV U) := by
            have := hu.own x hxn
            simp only [hU, hv] at this
            exact this
          have ADD := Lib.hid fun (g cap : Nat) (w1 : World) (o : Obj) hown hgrow hat => ph1_add (g := g) (cap := cap) (w1 := w1) (o := o) htl hx hxn hs h1 h2 h3 hu hU hown hgrow hat
          rw [hv] at ADD
          have hbase : w.heap.size + 1 + 1 + 1 + 1 ≤ w2.heap.size := hs.B1w
          have hue : ∀ (o : Obj) (w1 : World), (w2.alloc o).grownBy w1 v.ownBlock → w1.rowIs (w.heap.size + 1) 26 n vs := fun o w1 hg => by
            refine hu.row.of_block ?_
            rw [hg.block _ (by simp; omega) (fun e => by have := (huown.lt _ e.symm).1; omega), Below.heap_alloc w2 _ _ (by omega)]
          have HUE := Lib.hid fun (o : Obj) (w1 : World) (h : (w2.alloc o).grownBy w1 v.ownBlock) => (show w1.cell? ⟨w.heap.size + 1, x, none⟩ = some v by have := (hue o w1 h).cell hxn; rw [hv] at this; exact this)
          have HUF := Lib.hid fun (o : Obj) (w1 : World) (h : (w2.alloc o).grownBy w1 v.ownBlock) => (hue o w1 h).frozen x
          have HUO := Lib.hid huown
          clear hc2 hs h1 h2 h3 hu hx hcell2 hv hU huown hue hxn
          go_wp2_with (at_builtin; refine wpList_append_lies _ rfl (.tmp 47) (.tmp 49) 26 rfl (w.heap.size + 1 + 1 + 1 + 1) 3 i3 (.int .i64 0) 1 8 Try.underlying26 HI.out HZ0.out HZ1.out HZ2.out rfl (by decide) v U.length (intsV U) rfl (HUO.out.alloc _) ⟨w2.heap.size, 0, none⟩ 1 1 [.int .i64 (k : Nat)] rfl rfl (cell_one_new _ _ _) (by intro u hu; simp at hu; subst hu; rfl) (by decide) (by unfold maxLen; omega) (by omega) (by simp; omega) _ rfl ?_; intro g cap w1 hown hgrow hat hlt3; have hcu := HUE.out _ _ hgrow; have hfu := HUF.out _ _ hgrow; have R := Lib.hid (ADD.out _ _ _ _ hown hgrow (hat.imp_right (fun h => by simpa using h))); clear hown hgrow hat)
          go_roundw
          case rel => exact ⟨t + 1, by go_num, by omega, R.out⟩
          case measure => simp [RowKit.intOf]; omega
        · have et : t = m := by omega
          subst et
          have hML := HM.out
          by_cases hm0 : t = 0
          · have hb : ((t : Int) == 0) = true := by rw [beq_iff_eq]; omega
            have hl0 : l = [] := List.eq_nil_of_length_eq_zero (by omega)
            obtain ⟨H, hs, h1, h2, h3⟩ := hpi
            obtain ⟨v, hq⟩ := hs.queue
            have hsc2 : w2.cell? ⟨bs, offs + k, none⟩ = some (.string (nm k)) := by rw [hs.below.cell (by exact hBs)]; exact HSC.out
            have hHl : H.length ≤ 1000000 := Nat.le_trans (nodup_le h1 (n := n) (fun j hj => by have := (h2 j).1 hj; omega)) hn6
            obtain ⟨s, hss⟩ : ∃ s, nm k = s := ⟨_, rfl⟩
            have hp := hpush_any hq (by omega) h3 k
            rw [hss] at hp hsc2
            have P := Lib.hid hp
            have HH := Lib.hid (show _ ∧ _ ∧ _ ∧ _ from ⟨hs, h1, h2, h3⟩)
            have HL0 := Lib.hid hl0
            have HSS := Lib.hid hss
            have HM0 := Lib.hid hm0
            clear hp hs h1 h2 h3 hl0 hss hq hML hm0
            go_wp2_with (go_at_call 27; refine P.out.mono ?_; rintro e w3 ⟨rfl, hf, v', H', hq', hp', hh'⟩)
            go_roundw
            case rel => exact ⟨k + 1, by go_num, by omega, by
              obtain ⟨hs, h1, h2, h3⟩ := HH.out
              have e1 := HL0.out
              have e2 := HL.out
              rw [HM0.out, e1] at hs
              exact ph1_push (by rw [e2, e1]) hs h1 h2 hf hq' hp' hh'⟩
            case measure => simp [RowKit.intOf]; omega
          · have hb : ((t : Int) == 0) = false := by rw [beq_eq_false_iff_ne]; omega
            have hnext : Ph1 nm M w n (k + 1) w2 := ph1_skip HL.out (fun e => by rw [e] at hML; simp at hML; omega) (by rw [← hML]; exact hpi)
            have HNX := Lib.hid hnext
            clear hnext hpi hML
            go_wp2
            go_roundw
            case rel => exact ⟨k + 1, by go_num, by omega, HNX.out⟩
            case measure => simp [RowKit.intOf]; omega
    · have ek : k = n := by omega
      subst ek
      obtain ⟨vs, hph2⟩ := ph2_start HN.out HPH.out
      have HP2 := Lib.hid hph2
      obtain ⟨B2, hB2⟩ : ∃ B2, wo.heap.size = B2 := ⟨_, rfl⟩
      rw [hB2] at HP2
      clear hph2 hB2 HPH
      go_wp2
      go_loopg [12] k (fun g sv wr => ∃ L v, v = sv ∧ Ph2 nm M w k B2 vs L v wr ∧ k ≤ L.length + g)
      case atStart => exact ⟨[], _, rfl, HP2.out, by simp⟩
      case round =>
        obtain ⟨L, v, rfl, hph, hLg⟩ := hrel
        obtain ⟨w2, hw2⟩ : ∃ w2 : World, w2 = wr := ⟨_, rfl⟩
        subst hw2
        obtain ⟨H, f, hs, hr, hi, hf, hh⟩ := hph
        obtain ⟨qv, hq⟩ := hs.queue
        obtain ⟨p, c, hqv⟩ := hq.shape
        subst hqv
        have hqc := hq.cell
        obtain ⟨hl, hHl⟩ : ∃ hl, H.length = hl := ⟨_, rfl⟩
        rw [hHl] at hqc
        have LN := Lib.hid (len_any p hl c w2)
        by_cases h0 : hl = 0
        · subst h0
          have hH : H = [] := List.eq_nil_of_length_eq_zero hHl
          subst hH
          have E := Lib.hid (ph2_end hs hr hi)
          clear hs hr hi hf hh hq hHl
          go_wp2_with (go_at_call 28; refine LN.out.mono ?_; rintro e w' ⟨rfl, rfl⟩)
          go_ret
          exact ⟨E.out.1, L, v, rfl, E.out.2.1, E.out.2.2⟩
        · have h0i : (0 : Int) < (hl : Int) := by omega
          have hHb : hl ≤ 1000000 := by
            have := nodup_le hi.1 (n := k) (fun j hj => by have := ((hi.2 j).1 hj).1; have := HN.out; omega)
            omega
          obtain ⟨x, hx⟩ : ∃ x, H.getD 0 0 = x := ⟨_, rfl⟩
          obtain ⟨s, hsn⟩ : ∃ s, nm x = s := ⟨_, rfl⟩
          have PH := Lib.hid (hpop_x hx hsn (hpop_any hq (by omega) (by omega) hh))
          have hxk : x < k := by
            have : x ∈ H := by rw [← hx]; simp [List.getD, List.getElem?_eq_getElem (show 0 < H.length by omega)]
            have := ((hi.2 x).1 this).1
            have := HN.out
            omega
          have hxi : (x : Int) < (k : Int) := by omega
          have hta := fun w => assert_thing s (x : Nat) w
          have HPK := Lib.hid (show _ ∧ _ ∧ _ ∧ _ ∧ _ from ⟨hs, hr, hi, hf, hh⟩)
          have HX := Lib.hid hx
          have hLk : L.length ≤ k := by
            have := Pl.Run.nodup _ L rfl hr
            have h2 := nodup_le this.1 this.2
            have := HN.out
            omega
          have hB2 := hs.B2w
          clear hs hr hi hf hh hq hx hsn hHl
          go_wp2_with (go_at_call 28; refine LN.out.mono ?_; rintro e w' ⟨rfl, rfl⟩)
          refine PH.out.mono ?_
          rintro e w3 ⟨rfl, hf3, v3, H', hq3, hp3, hh3⟩
          have hout := (HPK.out.1.queued hf3 ⟨_, hq3⟩).out
          have hsz3 := hf3.size
          have P2 := Lib.hid fun (g cap : Nat) (w4 : World) (o o1 : Obj) hown hgrow => ph2_pop (g := g) (cap := cap) (w2 := w4) (o := o) (o1 := o1) HN.out HPK.out.1 HPK.out.2.1 HPK.out.2.2.1 HPK.out.2.2.2.1 HPK.out.2.2.2.2 HX.out hp3 hf3 hq3 hh3 hown hgrow
          have HOUT := Lib.hid hout
          obtain ⟨U, hU⟩ : ∃ U, Pl.usr M x k = U := ⟨_, rfl⟩
          obtain ⟨m, hm⟩ : ∃ m, U.length = m := ⟨_, rfl⟩
          have hm6 : m ≤ 1000000 := by
            have a1 := Pl.usr_length M x k
            have a2 := HSZ.out
            have a3 := HN.out
            rw [hU, hm] at a1
            rw [← a3] at a2
            omega
          have hst4 : ∀ (g cap : Nat) (w4 : World), Ph2in nm M w k B2 vs (L ++ [x]) (.slice (some ⟨g, 0, none⟩) (L.length + 1) cap) (Pl.usr M x k) w4 → ∃ p c, vs x = .slice p m c ∧ w4.cell? ⟨w.heap.size + 1, x, none⟩ = some (.slice p m c) ∧ m ≤ c ∧ c ≤ 9223372036854775807 := fun g cap w4 h => by
            have := h.user hxk
            rw [hU, hm] at this
            exact this
          have HUU := Lib.hid hU
          have HM := Lib.hid hm
          clear hU hm
          have HU := Lib.hid hst4
          clear hf3 hq3 hp3 hh3 hout hst4
          go_wp2_with (at_builtin; refine wpList_append_lies _ rfl (.tmp 76) (.tmp 79) 26 rfl B2 3 i3 (.int .i64 0) 1 8 Try.underlying26 HI.out HZ0.out HZ1.out HZ2.out rfl (by decide) v L.length (intsV L) rfl ((HOUT.out.alloc _).alloc _) ⟨w3.heap.size + 1, 0, none⟩ 1 1 [.int .i64 (x : Nat)] rfl rfl (news_two _ _ _ _) (by intro u hu; simp at hu; subst hu; rfl) (by decide) (by unfold maxLen; omega) (by omega) (by simp; omega) _ rfl ?_; intro g cap w4 hown hgrow hat hlt3; have hbx := box_kept HOUT.out hgrow; have R := Lib.hid (P2.out _ _ _ _ _ hown hgrow); obtain ⟨pu, cu, hvx, hcu, hcu2, hcu3⟩ := HU.out _ _ _ R.out; have HVX := Lib.hid hvx; clear hvx hown hgrow hat)
          have R2 : Hid (Ph2in nm M w k B2 vs (L ++ [x]) (.slice (some ⟨g, 0, none⟩) (L.length + 1) cap) (U.drop 0) w4) := Lib.hid (by rw [← HUU.out]; exact R.out)
          clear R HOUT P2 hbx
          go_loopw [87] (fun i w5 => ∃ t : Nat, i = .int .i64 t ∧ t ≤ m ∧ Ph2in nm M w k B2 vs (L ++ [x]) (.slice (some ⟨g, 0, none⟩) (L.length + 1) cap) (U.drop t) w5) (fun i _ => m - (RowKit.intOf i).toNat)
          case atStart => exact ⟨0, rfl, Nat.zero_le _, R2.out⟩
          case round =>
            obtain ⟨t, rfl, ht, hpi⟩ := hrel
            obtain ⟨w5, hw5⟩ : ∃ w5 : World, w5 = wr := ⟨_, rfl⟩
            subst hw5
            clear hcu
            by_cases hlt : t < m
            · obtain ⟨g2, rfl, hcj⟩ := hpi.user_at hxk (by rw [HUU.out, HM.out]; exact hlt) HVX.out
              rw [HUU.out] at hcj
              obtain ⟨j, hj⟩ : ∃ j, U.getD t 0 = j := ⟨_, rfl⟩
              rw [hj] at hcj
              have hdrop : U.drop t = j :: U.drop (t + 1) := by
                have htU : t < U.length := by rw [HM.out]; exact hlt
                rw [List.drop_eq_getElem_cons htU, ← hj]
                simp [List.getD, List.getElem?_eq_getElem htU]
              rw [hdrop] at hpi
              obtain ⟨H5, f5, hs, hr, hi, hh⟩ := hpi
              have hjr := hi.rest j (by simp)
              have hjk : j < k := by have := HN.out; omega
              have hji : (j : Int) < (k : Int) := by omega
              obtain ⟨m', hm'⟩ : ∃ m', f5 j = m' + 1 := ⟨f5 j - 1, by have := hi.num j hjr.1; rw [List.count_cons_self] at this; omega⟩
              have hm6' : m' ≤ 2000000 := by
                have a1 := hi.num j hjr.1
                have a2 : Pl.lk M (L ++ [x]) j ≤ (M.getD j []).length := List.countP_le_length
                have a3 : (j :: U.drop (t + 1)).count j ≤ (j :: U.drop (t + 1)).length := List.count_le_length
                rw [← hdrop, List.length_drop, HM.out] at a3
                have a4 := Pl.szs_mono M (i := j + 1) (k := M.length) hjr.1
                have a5 := HSZ.out
                rw [← hdrop] at a1
                simp only [Pl.szs] at a4
                omega
              have hlc := hs.lacks.cell hjk
              rw [hm'] at hlc
              have hlc2 : w5.cell? ⟨w.heap.size, j, none⟩ = some (.int .i64 ((m' : Int) + 1)) := hlc
              have hlf := hs.lacks.frozen j
              have HKP := Lib.hid (show _ ∧ _ ∧ _ ∧ _ from ⟨hs, hr, hi, hh⟩)
              have HFM : Hid (f5 j - 1 = m') := Lib.hid (by omega)
              clear hs hr hi hh hj hdrop hjr hm' hlc
              by_cases hm0 : m' = 0
              · have hb : ((m' : Int) == 0) = true := by rw [beq_iff_eq]; omega
                have hss := HS.out
                rcases hss with h0' | ⟨bs, offs, rfl, hBs, hscells⟩
                · omega
                have hst := HKP.out.1.setLacks j m'
                have hscell := hscells j hjk
                obtain ⟨s', hs'⟩ : ∃ s', nm j = s' := ⟨_, rfl⟩
                rw [hs'] at hscell
                have hscell2 : (w5.setCell ⟨w.heap.size, j, none⟩ (.int .i64 (m' : Nat))).cell? ⟨bs, offs + j, none⟩ = some (.string s') := by rw [hst.below.cell (by exact hBs)]; exact hscell
                obtain ⟨qv5, hq5⟩ := hst.queue
                have hH5 : H5.length ≤ 1000000 := Nat.le_trans (nodup_le HKP.out.2.2.1.nodup (n := k) (fun i hi => by have := ((HKP.out.2.2.1.mem i).1 hi).1.1; have := HN.out; omega)) hn6
                have P5 := hpush_any hq5 (by omega) HKP.out.2.2.2 j
                rw [hs'] at P5
                have PP := Lib.hid P5
                have HSP := Lib.hid hs'
                have HM0 := Lib.hid hm0
                clear hscells hst hscell hq5 P5 hs' hm0
                go_wp2_with (go_at_call 27; refine PP.out.mono ?_; rintro e w6 ⟨rfl, hf6, v6, H6, hq6, hp6, hh6⟩)
                go_roundw
                case rel => exact ⟨t + 1, by go_num, by omega, ph2_push HKP.out.1 HKP.out.2.1 HKP.out.2.2.1 HFM.out HM0.out hf6 hq6 hp6 hh6⟩
                case measure => simp [RowKit.intOf]; omega
              · have hb : ((m' : Int) == 0) = false := by rw [beq_eq_false_iff_ne]; omega
                have NX := Lib.hid (ph2_keep HKP.out.1 HKP.out.2.1 HKP.out.2.2.1 HKP.out.2.2.2 HFM.out hm0)
                go_wp2
                go_roundw
                case rel => exact ⟨t + 1, by go_num, by omega, NX.out⟩
                case measure => simp [RowKit.intOf]; omega
            · have et : t = m := by omega
              subst et
              have hfin : Ph2 nm M w k B2 vs (L ++ [x]) (.slice (some ⟨g, 0, none⟩) (L.length + 1) cap) w5 := by
                have e : U.drop t = [] := List.drop_eq_nil_of_le (by rw [HM.out]; exact Nat.le_refl _)
                rw [e] at hpi
                exact ph2_fin HN.out hpi
              have HFN := Lib.hid hfin
              clear hfin hpi
              have hLk2 : L.length + 1 ≤ k := by
                obtain ⟨H6, f6, _, hr6, _⟩ := HFN.out
                have a1 := Pl.Run.nodup _ _ rfl hr6
                have a2 := nodup_le a1.1 a1.2
                have a3 := HN.out
                simp at a2
                omega
              go_wp2
              go_roundg (gk - 1)
              case measure => omega
              case rel => exact ⟨L ++ [x], _, rfl, HFN.out, by simp; omega⟩
end Go.Proofs.Ytnonncjndlcjgaa
