/- The reference's lay. -/
import Derived.Test.YtnonncjndlcjgaaRef
namespace Go.Proofs.Ytnonncjndlcjgaa
open Go.RowKit
variable {nm : Nat → ByteArray} {M : List (List Nat)} {w wr : World} {n : Nat} {L : List Nat} {v : Value}

theorem Try.info4 : (Try.prog.info? 4).map (fun i => (i.zero, i.size, i.bytes)) = some (some (.bool false), 1, 1) := by kernel_rfl

theorem Nats.below {w' : World} {p : Option Addr} {n cap : Nat} {zs : List Nat} (h : Nats w p n cap zs) (hb : Below w.heap.size w w') : Nats w' p n cap zs := by
  obtain ⟨h1, h2, h3, h4⟩ := h
  refine ⟨h1, h2, h3, ?_⟩
  rcases h4 with h4 | ⟨b, off, hp, hB, hc⟩
  · exact Or.inl h4
  · exact Or.inr ⟨b, off, hp, Nat.lt_of_lt_of_le hB hb.size, fun j hj => by rw [hb.cell (by exact hB)]; exact hc j hj⟩

/-- the reference's memory: which are laid, and in what order -/
structure RSt (w : World) (n : Nat) (L : List Nat) (v : Value) (wr : World) : Prop where
  below : Below w.heap.size w wr
  flags : wr.rowIs w.heap.size 4 n (flags L)
  out : wr.ownsRow (w.heap.size + 1) 3 1 v L.length (intsV L)
  sz : w.heap.size + 1 ≤ wr.heap.size

theorem RSt.start (w : World) (n : Nat) : RSt w n [] (.slice none 0 0) (w.alloc (.cells (madeCells #[.bool false] n) 4)) :=
  ⟨(Below.refl _ w).alloc (Nat.le_refl _) _, (World.rowIs_made w (.bool false) n 4).congr (fun j _ => by simp [Go.Proofs.Ytnonncjndlcjgaa.flags]), World.ownsRow_nil _ _ _ _, by simp⟩
theorem RSt.drewN (h : RSt w n L v wr) (q : Nat) : RSt w n L v (wr.drewN q) :=
  ⟨⟨h.below.os, h.below.tape, h.below.output, h.below.size, h.below.block⟩, h.flags, h.out, h.sz⟩
theorem RSt.step (h : RSt w n L v wr) {x : Nat} {o : Obj} {g cap : Nat} {w1 : World}
    (hown : w1.ownsRow (w.heap.size + 1) 3 1 (.slice (some ⟨g, 0, none⟩) (L.length + 1) cap) (L.length + 1) (intsV L ++ [.int .i64 (x : Nat)]))
    (hgrow : ((wr.setCell ⟨w.heap.size, x, none⟩ (.bool true)).alloc o).grownBy w1 v.ownBlock) :
    RSt w n (L ++ [x]) (.slice (some ⟨g, 0, none⟩) (L.length + 1) cap) w1 := by
  have hsz := h.sz
  have hb1 : Below w.heap.size w (wr.setCell ⟨w.heap.size, x, none⟩ (.bool true)) := h.below.setCell (Nat.le_refl _) _
  have hss : (wr.setCell ⟨w.heap.size, x, none⟩ (.bool true)).heap.size = wr.heap.size := by simp [World.setCell]
  have hf : (wr.setCell ⟨w.heap.size, x, none⟩ (.bool true)).rowIs w.heap.size 4 n (Go.Proofs.Ytnonncjndlcjgaa.flags (L ++ [x])) := (h.flags.set x (.bool true)).congr fun j _ => by
    by_cases e : j = x
    · subst e; simp [Go.Proofs.Ytnonncjndlcjgaa.flags]
    · simp [Go.Proofs.Ytnonncjndlcjgaa.flags, e]
  refine ⟨(hb1.alloc (by omega) o).grown hgrow (by simp; omega) (fun k hk => by have := (h.out.lt k hk).1; omega), hf.of_block ?_, ?_, ?_⟩
  · rw [hgrow.block _ (by simp; omega) (fun e => by have := (h.out.lt _ e.symm).1; omega), Below.heap_alloc _ _ _ (by omega)]
  · have e : intsV (L ++ [x]) = intsV L ++ [.int .i64 (x : Nat)] := by simp [intsV]
    rw [e, List.length_append]
    exact hown
  · have := hgrow.size
    simp at this
    omega

def RLayPost (nm : Nat → ByteArray) (M : List (List Nat)) (w : World) (n : Nat) (e : Ending) (w' : World) : Prop :=
  Below w.heap.size w w' ∧ ∃ L v, e = .returned (.tuple #[v, .slice (some ⟨w.heap.size, 0, none⟩) n n]) ∧ Pl.Done (ltN nm) M L ∧ w'.ownsRow (w.heap.size + 1) 3 1 v L.length (intsV L) ∧ w'.rowIs w.heap.size 4 n (flags L)

/-- while the best is looked for -/
def Look (nm : Nat → ByteArray) (M : List (List Nat)) (L : List Nat) (n : Nat) (w : World) (v : Value) (sb si : Value) (w2 : World) : Prop :=
  ∃ (i : Nat) (b : Int), si = .int .i64 i ∧ i ≤ n ∧ sb = .int .i64 b ∧ BestTo nm M L i b ∧ RSt w n L v w2

set_option maxRecDepth 100000 in
set_option maxHeartbeats 4000000 in
theorem rlay_any {ps pn : Option Addr} {cs cn : Nat} (hneeds : NeedsN w pn n cn M)
    (hsc : n ≤ cs) (_hscm : cs ≤ 9223372036854775807) (hscells : n = 0 ∨ ∃ b off, ps = some ⟨b, off, none⟩ ∧ b < w.heap.size ∧ ∀ j, j < n → w.cell? ⟨b, off + j, none⟩ = some (.string (nm j)))
    (hin : ∀ j k, k ∈ M.getD j [] → k < M.length) (hn6 : n ≤ 1000000) :
    Calls Try.prog 21 #[.slice ps n cs, .slice pn n cn] w (RLayPost nm M w n) := by
  obtain ⟨hn, hnc, hcm, hcells⟩ := hneeds
  have hmk1 := run_make_row' (P := Try.prog) 45 4 (.bool false) 1 Try.underlying45 Try.info4 rfl .i64 .i64 n (by omega) (by omega)
  obtain ⟨i3, hi3, hz30, hz31, hz32⟩ := info_parts Try.info3
  have HI := Lib.hid hi3
  have HZ0 := Lib.hid hz30
  have HZ1 := Lib.hid hz31
  have HZ2 := Lib.hid hz32
  clear hi3 hz30 hz31 hz32
  have HC := Lib.hid hcells
  have HS := Lib.hid hscells
  have HN := Lib.hid hn
  have HIN := Lib.hid hin
  have HP0 := Lib.hid (RSt.start w n)
  clear hcells hscells hn hin
  go_enter Try.func21, Try.ntmps21
  go_wp2
  clear hmk1
  go_loopg [7] n (fun g sv wr => ∃ L v, v = sv ∧ RSt w n L v wr ∧ Pl.Run (ltN nm) M L ∧ n ≤ L.length + g)
  case atStart => exact ⟨[], _, rfl, HP0.out, Pl.Run.nil _ _, by simp⟩
  case round =>
    obtain ⟨L, v, rfl, hst, hrun, hLg⟩ := hrel
    obtain ⟨wo, hwo⟩ : ∃ wo : World, wo = wr := ⟨_, rfl⟩
    subst hwo
    have hLn : L.length ≤ n := by
      have a1 := Pl.Run.nodup _ _ rfl hrun
      have a2 := nodup_le a1.1 a1.2
      have a3 := HN.out
      omega
    have HST := Lib.hid hst
    have HR := Lib.hid hrun
    clear hst hrun HP0
    go_wp2
    go_loopw [8, 9] (fun sb si w2 => Look nm M L n w v sb si w2) (fun _ i _ => n - (RowKit.intOf i).toNat)
    case atStart => exact ⟨0, -1, rfl, Nat.zero_le _, rfl, BestTo.start _ _ _, HST.out⟩
    case round =>
      obtain ⟨i, b, rfl, hi, rfl, hb, hst2⟩ := hrel
      obtain ⟨w2, hw2⟩ : ∃ w2 : World, w2 = wr := ⟨_, rfl⟩
      subst hw2
      have HB := Lib.hid hb
      have HST2 := Lib.hid hst2
      clear hb hst2
      by_cases hlt : i < n
      · have hcs := HC.out
        have hss := HS.out
        rcases hcs with h0 | ⟨b', off, rfl, hB', hcells⟩
        · omega
        rcases hss with h0 | ⟨bs, offs, rfl, hBs, hscells⟩
        · omega
        obtain ⟨qq, m, c, hcell, hnats⟩ := hcells i hlt
        have hcell2 : w2.cell? ⟨b', off + i, none⟩ = some (.slice qq m c) := by rw [HST2.out.below.cell (by exact hB')]; exact hcell
        have hiM : i < M.length := by have := HN.out; omega
        have hii : (i : Int) < (n : Int) := by omega
        have hfl := HST2.out.flags.cell hlt
        have hii0 : 0 < n := by omega
        by_cases hiL : i ∈ L
        · have hfl2 : w2.cell? ⟨w.heap.size, i, none⟩ = some (.bool true) := by rw [hfl]; simp [flags, hiL]
          have NX := Lib.hid (HB.out.no (i := i) (fun h => h.2.1 hiL))
          clear hcells hscells hcell hfl hnats hiL
          go_wp2
          go_quiet (fail)
          go_wp2
          go_roundw
          case rel => exact ⟨i + 1, b, by go_num, by omega, rfl, NX.out, HST2.out.drewN _⟩
          case measure => simp [RowKit.intOf]; omega
        · have hfl2 : w2.cell? ⟨w.heap.size, i, none⟩ = some (.bool false) := by rw [hfl]; simp [flags, hiL]
          have hdec : decide (i ∈ L) = false := by simp [hiL]
          obtain ⟨rb, hrb⟩ : ∃ rb, readyB L (M.getD i []) = rb := ⟨_, rfl⟩
          have RQ : Hid (∀ k, Calls Try.prog 30 #[.slice qq m c, .slice (some ⟨w.heap.size, 0, none⟩) n n] (w2.drewN k) fun e w'' => e = .returned (.bool rb) ∧ ∃ m', w'' = w2.drewN m') := Lib.hid fun k => by
            have h1 : Nats (w2.drewN k) qq m c (M.getD i []) := hnats.below ((HST2.out.drewN k).below)
            have h2 := ready_any (n := n) h1 (fun x hx => by have := HIN.out i x hx; have := HN.out; omega) hn6 ((HST2.out.drewN k).flags)
            rw [hrb] at h2
            exact h2.mono fun e w'' ⟨he, hw⟩ => ⟨he, k, hw.symm⟩
          have hcand := cand_iff M L i hiM
          rw [hrb] at hcand
          cases rb with
          | false =>
            have NX := Lib.hid (HB.out.no (i := i) (fun h => by have := (hcand.1 h).2; cases this))
            clear hcells hscells hcell hfl hnats hiL hdec hrb hcand
            go_wp2
            go_quiet ((go_at_call 30; exact RQ.out _))
            go_wp2
            go_roundw
            case rel => exact ⟨i + 1, b, by go_num, by omega, rfl, NX.out, HST2.out.drewN _⟩
            case measure => simp [RowKit.intOf]; omega
          | true =>
            have hc := hcand.2 ⟨hdec, rfl⟩
            rcases HB.out.shape with hb1 | ⟨x, hb1, hxi⟩
            · subst hb1
              have NX := Lib.hid (HB.out.first hc)
              clear hcells hscells hcell hfl hnats hiL hdec hrb hcand hc
              go_wp2
              go_quiet ((go_at_call 30; exact RQ.out _))
              go_wp2
              go_roundw
              case rel => exact ⟨i + 1, i, by go_num, by omega, rfl, NX.out, HST2.out.drewN _⟩
              case measure => simp [RowKit.intOf]; omega
            · subst hb1
              have hn1 : w2.cell? ⟨bs, offs + i, none⟩ = some (.string (nm i)) := by rw [HST2.out.below.cell (by exact hBs)]; exact hscells i hlt
              have hn2 : w2.cell? ⟨bs, offs + x, none⟩ = some (.string (nm x)) := by rw [HST2.out.below.cell (by exact hBs)]; exact hscells x (by omega)
              obtain ⟨s1, hs1⟩ : ∃ s, nm i = s := ⟨_, rfl⟩
              obtain ⟨s2, hs2⟩ : ∃ s, nm x = s := ⟨_, rfl⟩
              rw [hs1] at hn1
              rw [hs2] at hn2
              have hx0 : decide ((x : Int) < 0) = false := by rw [decide_eq_false_iff_not]; omega
              have hxn : (x : Int) < (n : Int) := by omega
              obtain ⟨lb, hlb⟩ : ∃ lb, Op.bytesLess s1.toList s2.toList = lb := ⟨_, rfl⟩
              have NL := HB.out.less hc
              have NN := HB.out.notless (i := i)
              rw [hs1, hs2] at NL NN
              cases lb with
              | true =>
                have NX := Lib.hid (NL hlb)
                clear hcells hscells hcell hfl hnats hiL hdec hrb hcand hc NL NN hs1 hs2
                go_wp2
                go_quiet ((go_at_call 30; exact RQ.out _))
                go_wp2
                go_roundw
                case rel => exact ⟨i + 1, i, by go_num, by omega, rfl, NX.out, HST2.out.drewN _⟩
                case measure => simp [RowKit.intOf]; omega
              | false =>
                have NX := Lib.hid (NN hlb)
                clear hcells hscells hcell hfl hnats hiL hdec hrb hcand hc NL NN hs1 hs2
                go_wp2
                go_quiet ((go_at_call 30; exact RQ.out _))
                go_wp2
                go_roundw
                case rel => exact ⟨i + 1, x, by go_num, by omega, rfl, NX.out, HST2.out.drewN _⟩
                case measure => simp [RowKit.intOf]; omega
      · have ei : i = n := by omega
        subst ei
        rcases HB.out.shape with hb1 | ⟨x, hb1, hxi⟩
        · subst hb1
          have D := Lib.hid (show Pl.Done (ltN nm) M L from ⟨HR.out, BestTo.none HN.out.symm HB.out⟩)
          go_wp2
          go_ret2
          exact ⟨HST2.out.below, L, v, rfl, D.out, HST2.out.out, HST2.out.flags⟩
        · subst hb1
          have hP := BestTo.pick HN.out.symm HB.out
          have HPK := Lib.hid (HR.out.snoc hP)
          have hxi' : (x : Int) < (i : Int) := by omega
          have hx0 : ¬ ((x : Int) < 0) := by omega
          have hcx := HST2.out.flags.cell hxi
          have hfx := HST2.out.flags.frozen x
          obtain ⟨vx, hvx⟩ : ∃ vx, flags L x = vx := ⟨_, rfl⟩
          rw [hvx] at hcx
          have OUT := Lib.hid (show (w2.setCell ⟨w.heap.size, x, none⟩ (.bool true)).ownsRow (w.heap.size + 1) 3 1 v L.length (intsV L) from ownsRow_setCell_below HST2.out.out (by show w.heap.size < w.heap.size + 1; omega) _)
          have STEP := Lib.hid fun (g cap : Nat) (w1 : World) (o : Obj) hown hgrow => HST2.out.step (x := x) (o := o) (g := g) (cap := cap) (w1 := w1) hown hgrow
          have hsz2 : w.heap.size + 1 ≤ w2.heap.size := HST2.out.sz
          have hgk : L.length + 1 ≤ i := by
            have a1 := Pl.Run.nodup _ _ rfl HPK.out
            have a2 := nodup_le a1.1 a1.2
            have a3 := HN.out
            simp at a2
            omega
          clear hP hvx
          go_wp2_with (at_builtin; refine wpList_append_lies _ rfl (.tmp 55) (.tmp 57) 26 rfl (w.heap.size + 1) 3 i3 (.int .i64 0) 1 8 Try.underlying26 HI.out HZ0.out HZ1.out HZ2.out rfl (by decide) v L.length (intsV L) rfl (OUT.out.alloc _) ⟨w2.heap.size, 0, none⟩ 1 1 [.int .i64 (x : Nat)] rfl rfl (by simpa using cell_one_new (w2.setCell ⟨w.heap.size, x, none⟩ (.bool true)) (.int .i64 (x : Nat)) 3) (by intro u hu; simp at hu; subst hu; rfl) (by decide) (by unfold maxLen; omega) (by omega) (by simp; omega) _ rfl ?_; intro g cap w1 hown hgrow hat hlt3; have R := Lib.hid (STEP.out _ _ _ _ hown hgrow); clear hown hgrow hat)
          go_roundg (gk - 1)
          case measure => omega
          case rel => exact ⟨L ++ [x], _, rfl, R.out, HPK.out, by simp; omega⟩
end Go.Proofs.Ytnonncjndlcjgaa
