/- The reference's Reach. -/
import Derived.Test.YtnonncjndlcjgaaReach
namespace Go.Proofs.Ytnonncjndlcjgaa
open Go.RowKit
variable {w : World} {N : List (List Int)}

def sflags (S : Nat → Bool) (j : Nat) : Value := .bool (S j)
/-- the reference's memory: which are in -/
structure InSt (w : World) (n : Nat) (wr : World) (S : Nat → Bool) : Prop where
  below : Below w.heap.size w wr
  row : wr.rowIs w.heap.size 4 n (sflags S)

theorem InSt.put {n x : Nat} {wr : World} {S : Nat → Bool} (h : InSt w n wr S) : InSt w n (wr.setCell ⟨w.heap.size, x, none⟩ (.bool true)) (Pl.upd S x) :=
  ⟨h.below.setCell (Nat.le_refl _) _, (h.row.set x _).congr fun j _ => by by_cases e : j = x <;> simp [sflags, Pl.upd, e]⟩
theorem InSt.start (w : World) (n a : Nat) : InSt w n ((w.alloc (.cells (madeCells #[.bool false] n) 4)).setCell ⟨w.heap.size, a, none⟩ (.bool true)) (Pl.upd (fun _ => false) a) :=
  InSt.put ⟨(Below.refl _ w).alloc (Nat.le_refl _) _, (World.rowIs_made w (.bool false) n 4).congr fun _ _ => rfl⟩

/-- rows below i are satisfied -/
def Sat (M : List (List Nat)) (S : Nat → Bool) (i : Nat) : Prop := ∀ j, j < i → S j = true → ∀ k ∈ M.getD j [], S k = true
def Rr (w : World) (M : List (List Nat)) (a n : Nat) (g : Nat) (sv : Value) (wr : World) : Prop :=
  ∃ m S, sv = .bool m ∧ InSt w n wr S ∧ Pl.Grow M a S ∧ (m = false → Pl.Closed M S) ∧ (m = true → Pl.unseen S n + 1 ≤ g)
def Rm (w : World) (M : List (List Nat)) (a n u : Nat) (sm si : Value) (wr : World) : Prop :=
  ∃ (i : Nat) (m : Bool) (S : Nat → Bool), sm = .bool m ∧ si = .int .i64 i ∧ i ≤ n ∧ InSt w n wr S ∧ Pl.Grow M a S ∧ (m = false → Sat M S i) ∧ Pl.unseen S n ≤ u ∧ (m = true → Pl.unseen S n + 1 ≤ u)
def Ri (w : World) (M : List (List Nat)) (a n u i : Nat) (l : List Nat) (sm sk : Value) (wr : World) : Prop :=
  ∃ (t : Nat) (m : Bool) (S : Nat → Bool), sm = .bool m ∧ sk = .int .i64 t ∧ t ≤ l.length ∧ InSt w n wr S ∧ Pl.Grow M a S ∧ (m = false → Sat M S i ∧ (S i = true → ∀ k ∈ l.take t, S k = true)) ∧ Pl.unseen S n ≤ u ∧ (m = true → Pl.unseen S n + 1 ≤ u)

def RReachPost (N : List (List Int)) (a : Int) (w : World) (e : Ending) (w' : World) : Prop :=
  Below w.heap.size w w' ∧ ∃ R v, ReachSpec N a R 0 ∧ e = .returned v ∧ w'.ownsRow w.heap.size 3 1 v R.length (intsV R)

set_option maxRecDepth 100000 in
set_option maxHeartbeats 4000000 in
theorem rreach_any {pn : Option Addr} {n cn : Nat} {a : Nat} (hneeds : Needs w pn n cn N) (hn6 : n ≤ 1000000) (hr : rightB N = true) (ha : a < n) :
    Calls Try.prog 18 #[.slice pn n cn, .int .i64 (a : Nat)] w (RReachPost N (a : Nat) w) := by
  have hin := natM_in hr
  obtain ⟨M, hM⟩ : ∃ M, natM N = M := ⟨_, rfl⟩
  have hnN := needsN_of hneeds hr
  rw [hM] at hnN hin
  have hMl : M.length = N.length := by rw [← hM]; simp
  have SP : Hid (∀ S, Pl.IsReach M a S → ReachSpec N (a : Nat) ((List.range n).filter S) 0) := Lib.hid fun S hS => by
    have hn := hneeds.1
    refine Or.inr ⟨hr, by omega, by omega, rfl, S, ?_, by rw [← hn]⟩
    rw [hM]
    simpa using hS
  obtain ⟨hn, hnc, hcm, hcells⟩ := hnN
  have hai : (a : Int) < (n : Int) := by omega
  have hmk1 := run_make_row' (P := Try.prog) 45 4 (.bool false) 1 Try.underlying45 Try.info4 rfl .i64 .i64 n (by omega) (by omega)
  have hc0 : (w.alloc (.cells (madeCells #[.bool false] n) 4)).cell? ⟨w.heap.size, a, none⟩ = some (.bool false) := (World.rowIs_made w (.bool false) n 4).cell ha
  have hf0 : (w.alloc (.cells (madeCells #[.bool false] n) 4)).frozen? ⟨w.heap.size, a, none⟩ = false := (World.rowIs_made w (.bool false) n 4).frozen a
  have hst0 := InSt.start w n a
  rw [World.setCell_alloc_at _ _ _ _ _ rfl] at hst0
  obtain ⟨i3, hi3, hz30, hz31, hz32⟩ := info_parts Try.info3
  have HI := Lib.hid hi3
  have HZ0 := Lib.hid hz30
  have HZ1 := Lib.hid hz31
  have HZ2 := Lib.hid hz32
  have HC := Lib.hid hcells
  have HN := Lib.hid hn
  have HIN := Lib.hid hin
  have HR0 : Hid (Rr w M a n n (.bool true) (w.alloc (.cells ((madeCells #[.bool false] n).setIfInBounds a (.bool true)) 4))) := Lib.hid (by
    have hu := Pl.unseen_upd (S := fun _ => false) (x := a) rfl n ha
    rw [Pl.unseen_none] at hu
    exact ⟨true, _, rfl, hst0, Pl.Grow.start M a, (fun h => by cases h), fun _ => by omega⟩)
  clear hi3 hz30 hz31 hz32 hneeds hr hM hn hcells hin hMl hst0
  go_enter Try.func18, Try.ntmps18
  go_wp2
  clear hmk1 hc0 hf0
  go_loopg [6] n (fun g sv wr => Rr w M a n g sv wr)
  case atStart => exact HR0.out
  case round =>
    obtain ⟨mo, S, rfl, hst, hgr, hcl, hun⟩ := hrel
    obtain ⟨wo, hwo⟩ : ∃ wo : World, wo = wr := ⟨_, rfl⟩
    subst hwo
    clear HR0
    cases mo with
    | false =>
      have SP2 := Lib.hid (SP.out S ⟨hgr.self, hcl rfl, hgr.least⟩)
      have HST := Lib.hid hst
      have C0 := Lib.hid (Coll.start wo S)
      clear hst hgr hcl hun
      go_wp2
      go_loopw [9, 10] (fun sv i wr => ∃ (k : Nat) (v : Value), v = sv ∧ i = .int .i64 k ∧ k ≤ n ∧ Coll wo S k v wr) (fun _ i _ => n - (RowKit.intOf i).toNat)
      case atStart => exact ⟨0, _, rfl, rfl, Nat.zero_le _, C0.out⟩
      case round =>
        obtain ⟨k, v, rfl, rfl, hk, hcol⟩ := hrel
        obtain ⟨w5, hw5⟩ : ∃ w5 : World, w5 = wr := ⟨_, rfl⟩
        subst hw5
        by_cases hlt : k < n
        · have hc5 : w5.cell? ⟨w.heap.size, k, none⟩ = some (.bool (S k)) := by rw [hcol.1.cell (by exact HST.out.row.lt)]; exact HST.out.row.cell hlt
          have hki : (k : Int) < (n : Int) := by omega
          cases hSk : S k with
          | false =>
            rw [hSk] at hc5
            have NX := Lib.hid (hcol.skip hSk)
            clear hcol hSk
            go_wp2
            go_roundw
            case rel => exact ⟨k + 1, v, rfl, by go_num, by omega, NX.out⟩
            case measure => simp [RowKit.intOf]; omega
          | true =>
            rw [hSk] at hc5
            obtain ⟨F, hF⟩ : ∃ F, (List.range k).filter S = F := ⟨_, rfl⟩
            have hFl : F.length ≤ k := by rw [← hF]; exact filt_len
            have OUT : Hid (w5.ownsRow wo.heap.size 3 1 v F.length (intsV F)) := Lib.hid (by rw [← hF]; exact hcol.2)
            have ADD := Lib.hid fun (g cap : Nat) (w4 : World) (o : Obj) hown hgrow => hcol.add hSk hF (o := o) (g := g) (cap := cap) (w1 := w4) hown hgrow
            have hsz2 : wo.heap.size ≤ w5.heap.size := hcol.1.size
            clear hcol hSk hF
            go_wp2_with (at_builtin; refine wpList_append_lies _ rfl (.tmp 69) (.tmp 71) 26 rfl wo.heap.size 3 i3 (.int .i64 0) 1 8 Try.underlying26 HI.out HZ0.out HZ1.out HZ2.out rfl (by decide) v F.length (intsV F) rfl (OUT.out.alloc _) ⟨w5.heap.size, 0, none⟩ 1 1 [.int .i64 (k : Nat)] rfl rfl (cell_one_new _ _ _) (by intro u hu; simp at hu; subst hu; rfl) (by decide) (by unfold maxLen; omega) (by omega) (by simp; omega) _ rfl ?_; intro g cap w4 hown hgrow hat hlt3; have R := Lib.hid (ADD.out _ _ _ _ hown hgrow); clear hown hgrow hat)
            go_roundw
            case rel => exact ⟨k + 1, _, rfl, by go_num, by omega, R.out⟩
            case measure => simp [RowKit.intOf]; omega
        · have ek : k = n := by omega
          have HEK := Lib.hid ek
          have HCOL := Lib.hid hcol
          have hkn : (n : Int) ≤ (k : Int) := by omega
          clear hcol ek hlt
          go_wp2
          go_ret
          have hb := HST.out.below
          have hc := HCOL.out
          rw [HEK.out] at hc
          exact ⟨hb.trans (hc.1.mono hb.size), _, v, SP2.out, rfl, hc.2.mono hb.size⟩
    | true =>
      obtain ⟨u, hu⟩ : ∃ u, Pl.unseen S n = u := ⟨_, rfl⟩
      have hug : u + 1 ≤ gk := by have := hun rfl; omega
      have RM0 : Hid (Rm w M a n u (.bool false) (.int .i64 0) wo) := Lib.hid ⟨0, false, S, rfl, rfl, Nat.zero_le _, hst, hgr, (fun _ j hj => absurd hj (by omega)), by omega, fun h => by cases h⟩
      clear hst hgr hcl hun hu
      go_wp2
      go_loopw [6, 7] (fun sm si w2 => Rm w M a n u sm si w2) (fun _ i _ => n - (RowKit.intOf i).toNat)
      case atStart => exact RM0.out
      case round =>
        obtain ⟨i, m, S1, rfl, rfl, hi, hst1, hgr1, hsat1, hu1, hu1'⟩ := hrel
        obtain ⟨w2, hw2⟩ : ∃ w2 : World, w2 = wr := ⟨_, rfl⟩
        subst hw2
        clear RM0
        by_cases hlt : i < n
        · have hii : (i : Int) < (n : Int) := by omega
          have hcs := HC.out
          rcases hcs with h0 | ⟨b, off, rfl, hB, hcells⟩
          · omega
          obtain ⟨q, ml, c, hnc1, hnats⟩ := hcells i hlt
          obtain ⟨l, hl⟩ : ∃ l, M.getD i [] = l := ⟨_, rfl⟩
          rw [hl] at hnats
          have HNC := Lib.hid hnc1
          have hml : ml = l.length := hnats.1
          have hmc := hnats.2.1
          have hcm3 := hnats.2.2.1
          have hlin : ∀ k ∈ l, k < n := fun k hk => by have := HIN.out i k (by rw [hl]; exact hk); have := HN.out; omega
          have RI0 : Hid (Ri w M a n u i l (.bool m) (.int .i64 0) w2) := Lib.hid ⟨0, m, S1, rfl, rfl, Nat.zero_le _, hst1, hgr1, (fun h => ⟨hsat1 h, fun _ k hk => by simp at hk⟩), hu1, hu1'⟩
          have HQ := Lib.hid hnats.2.2.2
          have HML := Lib.hid hml
          have HLI := Lib.hid hlin
          have HL := Lib.hid hl
          clear hcells hnc1 hnats hl hml hlin hst1 hgr1 hsat1 hu1 hu1'
          go_wp2
          go_loopw [6, 8] (fun sm sk w3 => Ri w M a n u i l sm sk w3) (fun _ k _ => ml - (RowKit.intOf k).toNat)
          case atStart => exact RI0.out
          case round =>
            obtain ⟨t, m2, S2, rfl, rfl, ht, hst2, hgr2, hsat2, hu2, hu2'⟩ := hrel
            obtain ⟨w3, hw3⟩ : ∃ w3 : World, w3 = wr := ⟨_, rfl⟩
            subst hw3
            clear RI0
            have hncell : w3.cell? ⟨b, off + i, none⟩ = some (.slice q ml c) := by rw [hst2.below.cell (by exact hB)]; exact HNC.out
            have hcin : w3.cell? ⟨w.heap.size, i, none⟩ = some (.bool (S2 i)) := hst2.row.cell hlt
            have hleave : (m2 = false → Sat M S2 (i + 1)) → Rm w M a n u (.bool m2) (.int .i64 ((i + 1 : Nat) : Int)) w3 := fun h => ⟨i + 1, m2, S2, rfl, rfl, by omega, hst2, hgr2, h, hu2, hu2'⟩
            by_cases hlt2 : t < ml
            · have htl : (t : Int) < (ml : Int) := by omega
              cases hSi : S2 i with
              | false =>
                rw [hSi] at hcin
                have NX := Lib.hid (hleave (fun h j hj hSj k hk => by
                  by_cases e : j = i
                  · subst e; rw [hSi] at hSj; cases hSj
                  · exact (hsat2 h).1 j (by omega) hSj k hk))
                clear hst2 hgr2 hsat2 hu2 hu2' hleave hSi
                go_wp2
                go_roundw
                case rel => exact NX.out
                case measure => simp [RowKit.intOf]; omega
              | true =>
                rw [hSi] at hcin
                have hqc := HQ.out
                rcases hqc with h0 | ⟨b2, off2, rfl, hB2, hc2⟩
                · omega
                have htl2 : t < l.length := by have := HML.out; omega
                obtain ⟨y, hy⟩ : ∃ y, l.getD t 0 = y := ⟨_, rfl⟩
                have hyl : y ∈ l := by rw [← hy]; simp [List.getD, List.getElem?_eq_getElem htl2]
                have hyn := HLI.out y hyl
                have hyi : (y : Int) < (n : Int) := by omega
                have hycell : w3.cell? ⟨b2, off2 + t, none⟩ = some (.int .i64 (y : Nat)) := by
                  rw [hst2.below.cell (by exact hB2), hc2 t hlt2, hy]
                have hcy : w3.cell? ⟨w.heap.size, y, none⟩ = some (.bool (S2 y)) := hst2.row.cell hyn
                have hfy : w3.frozen? ⟨w.heap.size, y, none⟩ = false := hst2.row.frozen y
                have htake := Pl.take_succ_getD l t htl2
                rw [hy] at htake
                cases hSy : S2 y with
                | true =>
                  rw [hSy] at hcy
                  have NX : Hid (Ri w M a n u i l (.bool m2) (.int .i64 ((t + 1 : Nat) : Int)) w3) := Lib.hid ⟨t + 1, m2, S2, rfl, rfl, by omega, hst2, hgr2, (fun h => ⟨(hsat2 h).1, fun h2 k hk => by
                    rw [htake] at hk
                    rcases List.mem_append.1 hk with hk | hk
                    · exact (hsat2 h).2 h2 k hk
                    · simp at hk; subst hk; exact hSy⟩), hu2, hu2'⟩
                  clear hst2 hgr2 hsat2 hu2 hu2' hleave hSi hSy hc2 hy hyl htake
                  go_wp2
                  go_roundw
                  case rel => exact NX.out
                  case measure => simp [RowKit.intOf]; omega
                | false =>
                  rw [hSy] at hcy
                  have hu3 := Pl.unseen_upd hSy n hyn
                  have NX : Hid (Ri w M a n u i l (.bool true) (.int .i64 ((t + 1 : Nat) : Int)) (w3.setCell ⟨w.heap.size, y, none⟩ (.bool true))) := Lib.hid ⟨t + 1, true, Pl.upd S2 y, rfl, rfl, by omega, hst2.put, hgr2.add hSi (by rw [HL.out]; exact hyl), (fun h => by cases h), by omega, fun _ => by omega⟩
                  clear hst2 hgr2 hsat2 hu2 hu2' hleave hSi hSy hc2 hy hyl htake hu3
                  go_wp2
                  go_roundw
                  case rel => exact NX.out
                  case measure => simp [RowKit.intOf]; omega
            · have et : t = ml := by have := HML.out; omega
              have hge : (ml : Int) ≤ (t : Int) := by omega
              have hgf : decide ((t : Int) < (ml : Int)) = false := by rw [decide_eq_false_iff_not]; omega
              have hgf2 : decide (t < ml) = false := by rw [decide_eq_false_iff_not]; omega
              have NX := Lib.hid (hleave (fun h j hj hSj k hk => by
                by_cases e : j = i
                · subst e
                  rw [HL.out] at hk
                  refine (hsat2 h).2 hSj k ?_
                  rw [et, HML.out, List.take_length]
                  exact hk
                · exact (hsat2 h).1 j (by omega) hSj k hk))
              clear hst2 hgr2 hsat2 hu2 hu2' hleave et hlt2
              go_wp2
              go_roundw
              case rel => exact NX.out
              case measure => simp [RowKit.intOf]; omega
        · have hge : (n : Int) ≤ (i : Int) := by omega
          have NX : Hid (Rr w M a n (gk - 1) (.bool m) w2) := Lib.hid ⟨m, S1, rfl, hst1, hgr1, (fun h j hj k hk => by
            by_cases hjn : j < n
            · exact hsat1 h j (by omega) hj k hk
            · have e : M.getD j [] = [] := by have := HN.out; simp [List.getD, List.getElem?_eq_none (show M.length ≤ j by omega)]
              rw [e] at hk
              cases hk), fun h => by have := hu1' h; omega⟩
          clear hst1 hgr1 hsat1 hu1 hu1' hlt
          go_wp2
          go_roundg (gk - 1)
          case measure => omega
          case rel => exact NX.out
end Go.Proofs.Ytnonncjndlcjgaa
