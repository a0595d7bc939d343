/- The reference's Stuck. -/
import Derived.Test.YtnonncjndlcjgaaStuck
namespace Go.Proofs.Ytnonncjndlcjgaa
open Go.RowKit
variable {w : World} {N : List (List Int)}

def RStuckPost (N : List (List Int)) (w : World) (e : Ending) (w' : World) : Prop :=
  Below w.heap.size w w' ∧ ∃ R v, StuckSpec N R 0 ∧ e = .returned v ∧ w'.ownsRow w.heap.size 3 1 v R.length (intsV R)

set_option maxHeartbeats 2000000 in
theorem rstuck_any {pn : Option Addr} {n cn : Nat} (hneeds : Needs w pn n cn N) (hr : rightB N = true) (hn6 : n ≤ 1000000) :
    Calls Try.prog 17 #[.slice pn n cn] w (RStuckPost N w) := by
  have hn := hneeds.1
  have hmk := run_make_row' (P := Try.prog) 22 9 (.string ByteArray.empty) 16 Try.underlying22 Try.info9 rfl .i64 .i64 n (by omega) (by omega)
  have HL : Hid (Calls Try.prog 21 #[.slice (some ⟨w.heap.size, 0, none⟩) n n, .slice pn n cn] (w.alloc (.cells (madeCells #[.string ByteArray.empty] n) 9)) (RLayPost nm0 (natM N) (w.alloc (.cells (madeCells #[.string ByteArray.empty] n) 9)) n)) := Lib.hid
    (rlay_any (needsN_of (hneeds.below ((Below.refl _ w).alloc (Nat.le_refl _) _)) hr) (Nat.le_refl _) (by omega) (names_made w n) (natM_in hr) hn6)
  obtain ⟨i3, hi3, hz30, hz31, hz32⟩ := info_parts Try.info3
  have HI := Lib.hid hi3
  have HZ0 := Lib.hid hz30
  have HZ1 := Lib.hid hz31
  have HZ2 := Lib.hid hz32
  have HR := Lib.hid hr
  have HN := Lib.hid hn
  have hnc := hneeds.2.1
  have hcm := hneeds.2.2.1
  clear hi3 hz30 hz31 hz32 hneeds hn hr
  go_enter Try.func17, Try.ntmps17
  go_wp2_with fail
  refine HL.out.mono ?_
  rintro e w2 ⟨hb2, L, v, rfl, hd, hown, hfl⟩
  have HB : Hid (Below w.heap.size w w2) := Lib.hid (((Below.refl _ w).alloc (Nat.le_refl _) _).trans (hb2.mono (by simp)))
  have hfl' : w2.rowIs (w.heap.size + 1) 4 n (flags L) := by simpa using hfl
  have HFL := Lib.hid hfl'
  have HD := Lib.hid hd
  have C0 := Lib.hid (Coll.start w2 (fun j => decide (j ∉ L)))
  have hlt1 : w.heap.size + 1 < w2.heap.size := hfl'.lt
  clear hb2 hown hd hfl hfl' hmk
  go_wp2
  go_loopw [5, 6] (fun sv i wr => ∃ (k : Nat) (v : Value), v = sv ∧ i = .int .i64 k ∧ k ≤ n ∧ Coll w2 (fun j => decide (j ∉ L)) k v wr) (fun _ i _ => n - (RowKit.intOf i).toNat)
  case atStart => exact ⟨0, _, rfl, rfl, Nat.zero_le _, C0.out⟩
  case round =>
    obtain ⟨k, v, rfl, rfl, hk, hcol⟩ := hrel
    obtain ⟨wo, hwo⟩ : ∃ wo : World, wo = wr := ⟨_, rfl⟩
    subst hwo
    by_cases hlt : k < n
    · have hfc : wo.cell? ⟨w.heap.size + 1, k, none⟩ = some (flags L k) := by rw [hcol.1.cell (by exact hlt1)]; exact HFL.out.cell hlt
      by_cases hkL : k ∈ L
      · have hfc2 : wo.cell? ⟨w.heap.size + 1, k, none⟩ = some (.bool true) := by rw [hfc]; simp [flags, hkL]
        have NX := Lib.hid (hcol.skip (by simp [hkL]))
        clear hcol hkL hfc
        go_wp2
        go_roundw
        case rel => exact ⟨k + 1, v, rfl, by go_num, by omega, NX.out⟩
        case measure => simp [RowKit.intOf]; omega
      · have hfc2 : wo.cell? ⟨w.heap.size + 1, k, none⟩ = some (.bool false) := by rw [hfc]; simp [flags, hkL]
        obtain ⟨F, hF⟩ : ∃ F, (List.range k).filter (fun j => decide (j ∉ L)) = F := ⟨_, rfl⟩
        have hFl : F.length ≤ k := by rw [← hF]; exact filt_len
        have OUT : Hid (wo.ownsRow w2.heap.size 3 1 v F.length (intsV F)) := Lib.hid (by rw [← hF]; exact hcol.2)
        have ADD := Lib.hid fun (g cap : Nat) (w4 : World) (o : Obj) hown hgrow => hcol.add (by simp [hkL]) hF (o := o) (g := g) (cap := cap) (w1 := w4) hown hgrow
        have hsz2 : w2.heap.size ≤ wo.heap.size := hcol.1.size
        clear hcol hkL hF hfc
        go_wp2_with (at_builtin; refine wpList_append_lies _ rfl (.tmp 26) (.tmp 28) 26 rfl w2.heap.size 3 i3 (.int .i64 0) 1 8 Try.underlying26 HI.out HZ0.out HZ1.out HZ2.out rfl (by decide) v F.length (intsV F) rfl (OUT.out.alloc _) ⟨wo.heap.size, 0, none⟩ 1 1 [.int .i64 (k : Nat)] rfl rfl (cell_one_new _ _ _) (by intro u hu; simp at hu; subst hu; rfl) (by decide) (by unfold maxLen; omega) (by omega) (by simp; omega) _ rfl ?_; intro g cap w4 hown hgrow hat hlt3; have R := Lib.hid (ADD.out _ _ _ _ hown hgrow); clear hown hgrow hat)
        go_roundw
        case rel => exact ⟨k + 1, _, rfl, by go_num, by omega, R.out⟩
        case measure => simp [RowKit.intOf]; omega
    · have ek : k = n := by omega
      subst ek
      have HCOL := Lib.hid hcol
      clear hcol
      go_wp2
      go_ret
      refine ⟨HB.out.trans (HCOL.out.1.mono HB.out.size), _, v, Or.inr ⟨HR.out, rfl, L, HD.out, rfl⟩, rfl, ?_⟩
      rw [← HN.out]
      exact HCOL.out.2.mono HB.out.size
end Go.Proofs.Ytnonncjndlcjgaa
