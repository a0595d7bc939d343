/- order.Reach. -/
import Derived.Test.YtnonncjndlcjgaaStuck
import Derived.Test.YtnonncjndlcjgaaAhead
import Derived.Test.YtnonncjndlcjgaaPlReach
namespace Go.Proofs.Ytnonncjndlcjgaa
open Go.RowKit
variable {w : World} {N : List (List Int)}

structure RchSt (w : World) (mb B : Nat) (wr : World) (S : Nat → Bool) (cnt : Nat) (v : Value) (A : List Nat) : Prop where
  below : Below w.heap.size w wr
  set : SetAt wr mb cnt S
  ahead : AheadAt wr B v A
  mbw : w.heap.size ≤ mb
  Bw : w.heap.size ≤ B ∧ B ≤ wr.heap.size

theorem SetAt.isMap {b n : Nat} {S : Nat → Bool} (h : SetAt w b n S) : ∀ cur, w.heap[b]? ≠ some (.cells cur 3 (0, 0)) := by
  obtain ⟨D, ⟨es, clock, h1, _⟩, _⟩ := h
  intro cur e
  rw [h1] at e
  cases e

theorem RchSt.put {mb B cnt : Nat} {wr w' : World} {S S' : Nat → Bool} {v : Value} {A : List Nat} (h : RchSt w mb B wr S cnt v A) (hs : SetAt w' mb (cnt + 1) S') (hg : wr.grownBy w' (some mb)) : RchSt w mb B w' S' (cnt + 1) v A :=
  ⟨h.below.grown hg h.below.size (fun k hk => by cases hk; exact h.mbw), hs, h.ahead.kept hg (fun b cur e => by cases e; exact h.set.isMap cur), h.mbw, h.Bw.1, Nat.le_trans h.Bw.2 hg.size⟩

theorem RchSt.push {mb B cnt : Nat} {wr w' : World} {S : Nat → Bool} {v v' : Value} {A A' : List Nat} {o : Obj} (h : RchSt w mb B wr S cnt v A) (ha : AheadAt w' B v' A') {row : Option Nat} (hg : (wr.alloc o).grownBy w' row)
    (hrow : ∀ b, row = some b → B ≤ b ∧ ∃ cur, wr.heap[b]? = some (.cells cur 3 (0, 0))) : RchSt w mb B w' S cnt v' A' :=
  ⟨(h.below.alloc h.below.size o).grown hg (by have := h.below.size; simp; omega) (fun k hk => by have := (hrow k hk).1; have := h.Bw.1; omega),
    (h.set.alloc o).kept hg (fun e => by obtain ⟨cur, hc⟩ := (hrow mb e.symm).2; exact h.set.isMap cur hc), ha, h.mbw, h.Bw.1, Nat.le_trans h.Bw.2 (by have := hg.size; simp at this; omega)⟩

theorem RchSt.popped {mb B cnt : Nat} {wr : World} {S : Nat → Bool} {v v' : Value} {A A' : List Nat} (h : RchSt w mb B wr S cnt v A) (ha : AheadAt wr B v' A') : RchSt w mb B wr S cnt v' A' := ⟨h.below, h.set, ha, h.mbw, h.Bw⟩

def ReachSpec (N : List (List Int)) (a : Int) (R : List Nat) (c : Int) : Prop :=
  ((rightB N = false ∨ a < 0 ∨ (N.length : Int) ≤ a) ∧ R = [] ∧ c = 3) ∨ (rightB N = true ∧ 0 ≤ a ∧ a < N.length ∧ c = 0 ∧ ∃ S, Pl.IsReach (natM N) a.toNat S ∧ R = (List.range N.length).filter S)
def ReachPost (N : List (List Int)) (a : Int) (w : World) (e : Ending) (w' : World) : Prop :=
  Below w.heap.size w w' ∧ ∃ R c v, ReachSpec N a R c ∧ e = .returned (.tuple #[v, .int .i64 c]) ∧ w'.ownsRow w.heap.size 3 1 v R.length (intsV R)

/-- Reach's loop: what is seen, what is ahead -/
def Rch (w : World) (M : List (List Nat)) (a n mb B : Nat) (g : Nat) (sv : Value) (wr : World) : Prop :=
  ∃ S A v cnt, v = sv ∧ RchSt w mb B wr S cnt v A ∧ Pl.Bfs0 M a S A ∧ (∀ j ∈ A, j < n) ∧ cnt + Pl.unseen S n ≤ n ∧ Pl.unseen S n + A.length ≤ g ∧ g ≤ n
def RchIn (w : World) (M : List (List Nat)) (a n mb B : Nat) (g x : Nat) (l : List Nat) (sv si : Value) (wr : World) : Prop :=
  ∃ t S A v cnt, v = sv ∧ si = .int .i64 (t : Nat) ∧ t ≤ l.length ∧ RchSt w mb B wr S cnt v A ∧ Pl.Bfs M a S A x (l.drop t) ∧ (∀ j ∈ A, j < n) ∧ cnt + Pl.unseen S n ≤ n ∧ Pl.unseen S n + A.length ≤ g ∧ g ≤ n

set_option maxHeartbeats 1000000 in
theorem reach_bad {pn : Option Addr} {n cn : Nat} {a : Int} (hneeds : Needs w pn n cn N) (hbad : rightB N = false ∨ a < 0 ∨ (n : Int) ≤ a) :
    Calls Try.prog 16 #[.slice pn n cn, .int .i64 a] w (ReachPost N a w) := by
  have hn := hneeds.1
  have SP : Hid (ReachSpec N a [] 3) := Lib.hid (Or.inl ⟨by rw [← hn]; exact hbad, rfl, rfl⟩)
  obtain ⟨r, hr⟩ : ∃ r, rightB N = r := ⟨_, rfl⟩
  have C1 := oright_any hneeds
  rw [hr] at C1 hbad
  have RC := Lib.hid C1
  clear hneeds hn hr C1
  cases r with
  | false =>
    clear hbad
    go_enter Try.func16, Try.ntmps16
    go_wp2_with (go_at_call 19; refine RC.out.mono ?_; rintro e w1 ⟨rfl, hb1⟩)
    go_ret2
    exact ⟨hb1, [], 3, _, SP.out, rfl, World.ownsRow_nil _ _ _ _⟩
  | true =>
    have hbad2 : a < 0 ∨ (0 ≤ a ∧ (n : Int) ≤ a) := by
      rcases hbad with h | h | h
      · cases h
      · exact Or.inl h
      · by_cases h2 : a < 0
        · exact Or.inl h2
        · exact Or.inr ⟨by omega, h⟩
    clear hbad
    rcases hbad2 with h | ⟨h1, h2⟩
    all_goals
      go_enter Try.func16, Try.ntmps16
      go_wp2_with (go_at_call 19; refine RC.out.mono ?_; rintro e w1 ⟨rfl, hb1⟩)
      go_ret2
      exact ⟨hb1, [], 3, _, SP.out, rfl, World.ownsRow_nil _ _ _ _⟩

set_option maxRecDepth 100000 in
set_option maxHeartbeats 4000000 in
theorem reach_good {pn : Option Addr} {n cn : Nat} {a : Nat} (hneeds : Needs w pn n cn N) (hsz : n + Pl.szs (natM N) n ≤ 1000000) (hr : rightB N = true) (ha : a < n) :
    Calls Try.prog 16 #[.slice pn n cn, .int .i64 (a : Nat)] w (ReachPost N (a : Nat) w) := by
  have C1 := oright_any hneeds
  rw [hr] at C1
  have RC := Lib.hid C1
  have hin := natM_in hr
  obtain ⟨M, hM⟩ : ∃ M, natM N = M := ⟨_, rfl⟩
  have hnN := needsN_of hneeds hr
  rw [hM] at hnN hin hsz
  have hMl : M.length = N.length := by rw [← hM]; simp
  have SP : Hid (∀ S, Pl.IsReach M a S → ReachSpec N (a : Nat) ((List.range n).filter S) 0) := Lib.hid fun S hS => by
    have hn := hneeds.1
    refine Or.inr ⟨hr, by omega, by omega, rfl, S, ?_, by rw [← hn]⟩
    rw [hM]
    simpa using hS
  obtain ⟨hn, hnc, hcm, hcells⟩ := hnN
  have hn6 : n ≤ 1000000 := by omega
  have hai : (a : Int) < (n : Int) := by omega
  have hd1 : decide ((a : Int) < 0) = false := by rw [decide_eq_false_iff_not]; omega
  have hd2 : decide (n ≤ a) = false := by rw [decide_eq_false_iff_not]; omega
  have hd3 : decide ((n : Int) ≤ (a : Int)) = false := by rw [decide_eq_false_iff_not]; omega
  have hmm := @run_makeMap Try.prog
  obtain ⟨i3, hi3, hz30, hz31, hz32⟩ := info_parts Try.info3
  have HI := Lib.hid hi3
  have HZ0 := Lib.hid hz30
  have HZ1 := Lib.hid hz31
  have HZ2 := Lib.hid hz32
  have HC := Lib.hid hcells
  have HN := Lib.hid hn
  have HIN := Lib.hid hin
  have HSZ := Lib.hid hsz
  clear hi3 hz30 hz31 hz32 hneeds hr C1 hM hn hcells hin hsz hMl
  go_enter Try.func16, Try.ntmps16
  go_wp2_with fail
  refine RC.out.mono ?_
  rintro e w1 ⟨rfl, hb1⟩
  obtain ⟨w2, hrun, hset, hg2⟩ := (SetAt.made w1).put (x := a) (by omega) (by omega)
  have HB1 := Lib.hid hb1
  clear hb1
  have hst0 : RchSt w w1.heap.size w2.heap.size (w2.alloc (.cells #[.int .i64 (a : Nat)] 3)) (Pl.upd (fun _ => false) a) 1 (.slice (some ⟨w2.heap.size, 0, none⟩) 1 1) [a] := by
    have hs1 := HB1.out.size
    have hs2 := hg2.size
    simp at hs2
    exact ⟨((HB1.out.alloc hs1 _).grown hg2 (by simp; omega) (fun k hk => by cases hk; exact hs1)).alloc (by omega) _, (hset.congr (fun _ => rfl)).alloc _, AheadAt.start w2 a, hs1, by omega, by simp⟩
  have HST := Lib.hid hst0
  clear hst0 hset hg2
  have hR0 : Rch w M a n w1.heap.size w2.heap.size n (.slice (some ⟨w2.heap.size, 0, none⟩) 1 1) (w2.alloc (.cells #[.int .i64 (a : Nat)] 3)) := by
    have hu := Pl.unseen_upd (S := fun _ => false) (x := a) rfl n ha
    rw [Pl.unseen_none] at hu
    exact ⟨_, [a], _, 1, rfl, HST.out, Pl.Bfs0.start M a, fun j hj => by simp at hj; omega, by omega, by simp; omega, Nat.le_refl _⟩
  have HR0 := Lib.hid hR0
  clear hR0 HST
  go_wp2
  obtain ⟨mb, hmb⟩ : ∃ mb, w1.heap.size = mb := ⟨_, rfl⟩
  obtain ⟨B, hB⟩ : ∃ B, w2.heap.size = B := ⟨_, rfl⟩
  rw [hmb, hB] at HR0
  have HMB := Lib.hid hmb
  have HBB := Lib.hid hB
  clear hrun
  rw [hmb, hB]
  clear hmb hB
  go_loopg [7] n (fun g sv wr => Rch w M a n mb B g sv wr)
  case atStart => exact HR0.out
  case round =>
    obtain ⟨S, A, v, cnt, rfl, hst, hbfs, hAn, hcnt, hun⟩ := hrel
    obtain ⟨wo, hwo⟩ : ∃ wo : World, wo = wr := ⟨_, rfl⟩
    subst hwo
    clear HR0
    cases A with
    | nil =>
      obtain ⟨ao, cap, hv⟩ := hst.ahead.empty
      subst hv
      have hreach := hbfs.reach
      have SP2 := Lib.hid (SP.out S hreach)
      have HST := Lib.hid hst
      have C0 := Lib.hid (Coll.start wo S)
      clear hst hbfs hAn hcnt hun hreach
      go_wp2
      go_loopw [11, 61] (fun sv i wr => ∃ (k : Nat) (v : Value), v = sv ∧ i = .int .i64 k ∧ k ≤ n ∧ Coll wo S k v wr) (fun _ i _ => n - (RowKit.intOf i).toNat)
      case atStart => exact ⟨0, _, rfl, rfl, Nat.zero_le _, C0.out⟩
      case round =>
        obtain ⟨k, v, rfl, rfl, hk, hcol⟩ := hrel
        obtain ⟨w5, hw5⟩ : ∃ w5 : World, w5 = wr := ⟨_, rfl⟩
        subst hw5
        by_cases hlt : k < n
        · have hset5 : SetAt w5 mb cnt S := HST.out.set.below hcol.1 HST.out.set.lt
          have hlook := hset5.look (x := k) (by omega)
          cases hSk : S k with
          | false =>
            rw [hSk] at hlook
            have NX := Lib.hid (hcol.skip hSk)
            clear hcol hset5 hSk
            go_wp2
            go_roundw
            case rel => exact ⟨k + 1, v, rfl, by go_num, by omega, NX.out⟩
            case measure => simp [RowKit.intOf]; omega
          | true =>
            rw [hSk] at hlook
            obtain ⟨F, hF⟩ : ∃ F, (List.range k).filter S = F := ⟨_, rfl⟩
            have hFl : F.length ≤ k := by rw [← hF]; exact filt_len
            have OUT : Hid (w5.ownsRow wo.heap.size 3 1 v F.length (intsV F)) := Lib.hid (by rw [← hF]; exact hcol.2)
            have ADD := Lib.hid fun (g cap : Nat) (w4 : World) (o : Obj) hown hgrow => hcol.add hSk hF (o := o) (g := g) (cap := cap) (w1 := w4) hown hgrow
            have hsz2 : wo.heap.size ≤ w5.heap.size := hcol.1.size
            clear hcol hset5 hSk hF
            go_wp2_with (at_builtin; refine wpList_append_lies _ rfl (.tmp 67) (.tmp 69) 26 rfl wo.heap.size 3 i3 (.int .i64 0) 1 8 Try.underlying26 HI.out HZ0.out HZ1.out HZ2.out rfl (by decide) v F.length (intsV F) rfl (OUT.out.alloc _) ⟨w5.heap.size, 0, none⟩ 1 1 [.int .i64 (k : Nat)] rfl rfl (cell_one_new _ _ _) (by intro u hu; simp at hu; subst hu; rfl) (by decide) (by unfold maxLen; omega) (by omega) (by simp; omega) _ rfl ?_; intro g cap w4 hown hgrow hat hlt3; have R := Lib.hid (ADD.out _ _ _ _ hown hgrow); clear hown hgrow hat)
            go_roundw
            case rel => exact ⟨k + 1, _, rfl, by go_num, by omega, R.out⟩
            case measure => simp [RowKit.intOf]; omega
        · have ek : k = n := by omega
          have HEK := Lib.hid ek
          have HCOL := Lib.hid hcol
          have hkn : (n : Int) ≤ (k : Int) := by omega
          clear hcol ek hlt
          go_wp2
          go_ret2
          have hb := HST.out.below
          have hc := HCOL.out
          rw [HEK.out] at hc
          exact ⟨hb.trans (hc.1.mono hb.size), _, 0, v, SP2.out, rfl, hc.2.mono hb.size⟩
    | cons x A =>
      obtain ⟨g, off, cap, hv, hcell, hlc, hcm2, hone, hmany⟩ := hst.ahead.pop
      obtain ⟨al, hal⟩ : ∃ al, A.length = al := ⟨_, rfl⟩
      rw [hal] at hv
      subst hv
      have hxn : x < n := hAn x (by simp)
      have hxi : (x : Int) < (n : Int) := by omega
      have hcs := HC.out
      rcases hcs with h0 | ⟨b, off1, rfl, hB1, hcells⟩
      · omega
      obtain ⟨q, m, c, hnc1, hnats⟩ := hcells x hxn
      have hncell : wo.cell? ⟨b, off1 + x, none⟩ = some (.slice q m c) := by rw [hst.below.cell (by exact hB1)]; exact hnc1
      rw [hal] at hlc hmany
      have hsplit : (cap = 1 ∧ al = 0 ∧ AheadAt wo B (.slice (some ⟨g, off, none⟩) 0 0) A) ∨ (cap ≠ 1 ∧ AheadAt wo B (.slice (some ⟨g, off + 1, none⟩) al (cap - 1)) A) := by
        by_cases hcap : cap = 1
        · obtain ⟨hA, h2⟩ := hone hcap
          exact Or.inl ⟨hcap, by rw [← hal, hA]; rfl, h2⟩
        · exact Or.inr ⟨hcap, hmany hcap⟩
      obtain ⟨l, hl⟩ : ∃ l, M.getD x [] = l := ⟨_, rfl⟩
      rw [hl] at hnats
      have hbf := hbfs.pop
      rw [hl] at hbf
      have hunA : (Pl.unseen S n + A.length ≤ gk - 1 ∧ gk - 1 ≤ n) ∧ 0 < gk := by simp at hun; omega
      have hAn' : ∀ j ∈ A, j < n := fun j hj => hAn j (by simp [hj])
      have hml : m = l.length := hnats.1
      have hmc := hnats.2.1
      have hcm3 := hnats.2.2.1
      have hlin : ∀ k ∈ l, k < n := fun k hk => by have := HIN.out x k (by rw [hl]; exact hk); have := HN.out; omega
      have HST := Lib.hid hst
      have HBF := Lib.hid hbf
      have HAN := Lib.hid hAn'
      have HCN := Lib.hid hcnt
      have HUN := Lib.hid hunA
      have HQ := Lib.hid hnats.2.2.2
      have HML := Lib.hid hml
      have HLI := Lib.hid hlin
      clear hst hbfs hAn hcnt hun hnats hcells hnc1 hal hmany hone hl hbf hunA hAn' hml hlin
      rcases hsplit with ⟨h1, h2, HA⟩ | ⟨h1, HA⟩
      all_goals
        have HAA := Lib.hid HA
        clear HA
        first | (subst h1; subst h2) | skip
        go_wp2
        go_loopw [7, 44] (fun sv si w2 => RchIn w M a n mb B (gk - 1) x l sv si w2) (fun _ i _ => m - (RowKit.intOf i).toNat)
        case atStart => exact ⟨0, S, A, _, cnt, rfl, rfl, Nat.zero_le _, HST.out.popped HAA.out, HBF.out, HAN.out, HCN.out, HUN.out.1⟩
        case round =>
          obtain ⟨t, S1, A1, v1, cnt1, rfl, rfl, ht, hst1, hbf1, hAn1, hcnt1, hun1⟩ := hrel
          obtain ⟨w5, hw5⟩ : ∃ w5 : World, w5 = wr := ⟨_, rfl⟩
          subst hw5
          by_cases hlt : t < m
          · have hqc := HQ.out
            rcases hqc with h0 | ⟨b2, off2, rfl, hB2, hc2⟩
            · omega
            have htl : t < l.length := by have := HML.out; omega
            obtain ⟨y, hy⟩ : ∃ y, l.getD t 0 = y := ⟨_, rfl⟩
            have hyl : y ∈ l := by rw [← hy]; simp [List.getD, List.getElem?_eq_getElem htl]
            have hyn := HLI.out y hyl
            have hdrop : l.drop t = y :: l.drop (t + 1) := by
              rw [List.drop_eq_getElem_cons htl, ← hy]
              simp [List.getD, List.getElem?_eq_getElem htl]
            have hycell : w5.cell? ⟨b2, off2 + t, none⟩ = some (.int .i64 (y : Nat)) := by
              rw [hst1.below.cell (by exact hB2), hc2 t hlt, hy]
            rw [hdrop] at hbf1
            have hlook := hst1.set.look (x := y) (by omega)
            cases hSy : S1 y with
            | true =>
              rw [hSy] at hlook
              have NX : Hid (RchIn w M a n mb B (gk - 1) x l v1 (.int .i64 ((t + 1 : Nat) : Int)) w5) := Lib.hid ⟨t + 1, S1, A1, v1, cnt1, rfl, rfl, by omega, hst1, hbf1.skip hSy, hAn1, hcnt1, hun1⟩
              clear hst1 hbf1 hAn1 hcnt1 hun1 hc2 hdrop hy hyl hSy
              go_wp2
              go_roundw
              case rel => exact NX.out
              case measure => simp [RowKit.intOf]; omega
            | false =>
              rw [hSy] at hlook
              have hu := Pl.unseen_upd hSy n hyn
              obtain ⟨w6, hrun6, hset6, hg6⟩ := hst1.set.put (x := y) (by omega) (by omega)
              have hst6 := hst1.put (S' := Pl.upd S1 y) hset6 hg6
              obtain ⟨v7, w7, hrun7, hah7, row7, hg7, hrow7⟩ := hst6.ahead.push (k := y) (by omega) hst6.Bw.2 26
              have NX : Hid (RchIn w M a n mb B (gk - 1) x l v7 (.int .i64 ((t + 1 : Nat) : Int)) w7) := Lib.hid ⟨t + 1, Pl.upd S1 y, A1 ++ [y], v7, cnt1 + 1, rfl, rfl, by omega, hst6.push hah7 hg7 hrow7, hbf1.add hSy,
                fun j hj => by
                  rcases List.mem_append.1 hj with h | h
                  · exact hAn1 j h
                  · simp at h; omega, by omega, by simp; omega, hun1.2⟩
              have HR7 := Lib.hid hrun7
              clear hst1 hbf1 hAn1 hcnt1 hun1 hc2 hdrop hy hyl hSy hu hset6 hg6 hst6 hrun7 hah7 hg7 hrow7
              go_wp2_with (at_builtin; refine wpList_append_run _ rfl (.tmp 54) (.tmp 56) 26 rfl v1 (.slice (some ⟨w6.heap.size, 0, none⟩) 1 1) rfl rfl HR7.out ?_)
              go_roundw
              case rel => first | exact NX.out | ((repeat apply Exists.intro); exact ⟨NX.out, rfl⟩)
              case measure => simp [RowKit.intOf]; omega
          · have et : t = m := by have := HML.out; omega
            subst et
            have hbf2 : Pl.Bfs M a S1 A1 x [] := by
              have e : l.drop t = [] := List.drop_eq_nil_of_le (by rw [HML.out]; exact Nat.le_refl _)
              rw [e] at hbf1
              exact hbf1
            have NX : Hid (Rch w M a n mb B (gk - 1) v1 w5) := Lib.hid ⟨S1, A1, v1, cnt1, rfl, hst1, hbf2.finish, hAn1, hcnt1, hun1⟩
            clear hst1 hbf1 hAn1 hcnt1 hun1 hbf2
            go_wp2
            go_roundg (gk - 1)
            case measure => have := HUN.out.2; omega
            case rel => exact NX.out
end Go.Proofs.Ytnonncjndlcjgaa
