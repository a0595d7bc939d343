/- UtfChars: of any number the kinds and the bytes agree; the law's walk: it returns true. -/
import Derived.Test.YthlofckaljkhhaaDoorPut2
import Derived.Deep.RegionWith
namespace Go.Proofs.YthlofckaljkhhaaDoor
open Go.RowKit Go.Lib

set_option maxRecDepth 100000 in
set_option maxHeartbeats 2000000 in
theorem chars_no (c : Int) (w : World) (hE : Env w) (hf : fineB c = false) : Calls Tryd.prog 8 #[.int .i64 c] w fun e w' => e = .returned (.bool true) ∧ Below w.heap.size w w' := by
  have HE := Lib.hid hE
  have HF := Lib.hid hf
  clear hE hf
  go_enter Tryd.func8, Tryd.ntmps8
  go_wp2_with (first | (go_at_call 20; refine (put_bad c HF.out _).mono ?_; rintro e w' ⟨rfl, rfl⟩) | (go_at_call 12; refine (alive_any _ HE.out).mono ?_; rintro e w' ⟨rfl, hb⟩; have HB := Lib.hid hb; clear hb) | (go_at_call 21; refine (rfine_no HF.out _).mono ?_; rintro e w' ⟨rfl, rfl⟩) | (go_at_call 18; refine (fine_no HF.out _).mono ?_; rintro e w' ⟨rfl, rfl⟩) | (go_at_call 19; refine (space_any _ _).mono ?_; rintro e w' ⟨rfl, rfl⟩) | (go_at_call 22; refine (rspace_any _ _).mono ?_; rintro e w' ⟨rfl, rfl⟩) | (go_at_call 14; refine (first_any _ _).mono ?_; rintro e w' ⟨rfl, rfl⟩) | (go_at_call 23; refine (rfirst_any _ _).mono ?_; rintro e w' ⟨rfl, rfl⟩) | (go_at_call 15; refine (next_any _ _).mono ?_; rintro e w' ⟨rfl, rfl⟩) | (go_at_call 24; refine (rnext_any _ _).mono ?_; rintro e w' ⟨rfl, rfl⟩) | (go_at_call 16; refine (start_any _ _).mono ?_; rintro e w' ⟨rfl, rfl⟩) | (go_at_call 17; refine (part_any _ _).mono ?_; rintro e w' ⟨rfl, rfl⟩) | (go_at_call 25; refine (rpart_any _ _).mono ?_; rintro e w' ⟨rfl, rfl⟩))
  go_ret
  exact ⟨rfl, HB.out⟩

theorem rput_at {c : Int} (hf : fineB c = true) (n : Nat) (hn : (putZ c).length = n) (W : World) : Calls Tryd.prog 26 #[.int .i64 c] W fun e W' =>
    ∃ q, e = .returned (.slice (some ⟨q, 0, none⟩) n n) ∧ W'.heap[q]? = some (.cells ((putL c).map fun b => Value.int .u8 (b.toNat : Int)).toArray 5 (0, 0)) ∧ Below W.heap.size W W' := by
  have ht := fineB_top hf
  refine (rput_any c (by omega) (by omega) W).mono ?_
  rintro e W' ⟨rfl, rfl⟩
  refine ⟨W.heap.size, by rw [hn], ?_, (Below.refl _ _).alloc (Nat.le_refl _) _⟩
  rw [cells_put hf]
  exact heap_alloc_new W _

set_option maxRecDepth 100000 in
set_option maxHeartbeats 2000000 in
theorem chars_yes (c : Int) (w : World) (hE : Env w) (hf : fineB c = true) : Calls Tryd.prog 8 #[.int .i64 c] w fun e w' => e = .returned (.bool true) ∧ Below w.heap.size w w' := by
  have ht := fineB_top hf
  have HE := Lib.hid hE
  have HF := Lib.hid hf
  clear hE hf
  go_enter Tryd.func8, Tryd.ntmps8
  go_wp2_with fail
  refine (put_at c HF.out _).mono ?_
  rintro e w1 ⟨g, cap, cur, rfl, hg, hb, hh, hn, hm, hsz, hta⟩
  have HB1 := Lib.hid hb
  have HH := Lib.hid hh
  have HT := Lib.hid hta
  have HE1 := Lib.hid (HE.out.below hb)
  clear hb hh hta hsz
  have hlt : g < w1.heap.size := (Array.getElem?_eq_some_iff.1 HH.out).1
  have hpp := putZ_pos c
  obtain ⟨n, hnn⟩ : ∃ n, (putZ c).length = n := ⟨_, rfl⟩
  rw [hnn] at hn hpp ⊢
  have HN := Lib.hid hnn
  clear hnn
  go_wp2_with (first | (go_at_call 12; refine (alive_any _ HE1.out).mono ?_; rintro e w' ⟨rfl, hb⟩; have HB := Lib.hid hb; clear hb) | (go_at_call 21; refine (rfine_yes HF.out _).mono ?_; rintro e w' ⟨rfl, rfl⟩) | (go_at_call 18; refine (fine_yes HF.out _).mono ?_; rintro e w' ⟨rfl, rfl⟩) | (go_at_call 19; refine (space_any _ _).mono ?_; rintro e w' ⟨rfl, rfl⟩) | (go_at_call 22; refine (rspace_any _ _).mono ?_; rintro e w' ⟨rfl, rfl⟩) | (go_at_call 14; refine (first_any _ _).mono ?_; rintro e w' ⟨rfl, rfl⟩) | (go_at_call 23; refine (rfirst_any _ _).mono ?_; rintro e w' ⟨rfl, rfl⟩) | (go_at_call 15; refine (next_any _ _).mono ?_; rintro e w' ⟨rfl, rfl⟩) | (go_at_call 24; refine (rnext_any _ _).mono ?_; rintro e w' ⟨rfl, rfl⟩) | (go_at_call 16; refine (start_any _ _).mono ?_; rintro e w' ⟨rfl, rfl⟩) | (go_at_call 17; refine (part_any _ _).mono ?_; rintro e w' ⟨rfl, rfl⟩) | (go_at_call 25; refine (rpart_any _ _).mono ?_; rintro e w' ⟨rfl, rfl⟩))
  have hcv : ∀ W : World, W.heap[g]? = some (.cells cur 5 (0, 0)) → (convert 22 9 (.slice (some ⟨g, 0, none⟩) n cap)).run Tryd.prog W = .ok (.string (putS c)) W := fun W hW =>
    conv_bytes (putS c) g 0 cap n (by rw [putS_size]; exact HN.out.symm) W (head_cells hW (by rw [putL_length]; exact HT.out))
  have hcv2 : ∀ (W : World) (q : Nat), W.heap[q]? = some (.cells ((putL c).map fun b => Value.int .u8 (b.toNat : Int)).toArray 5 (0, 0)) → (convert 22 9 (.slice (some ⟨q, 0, none⟩) n n)).run Tryd.prog W = .ok (.string (putS c)) W := fun W q hW =>
    conv_bytes (putS c) q 0 n n (by rw [putS_size]; exact HN.out.symm) W (head_cells hW (by rw [List.take_of_length_le (by simp)]))
  have hh5 : w'.heap[g]? = some (.cells cur 5 (0, 0)) := (HB.out.block g hlt).trans HH.out
  have hlt5 : g < w'.heap.size := (Array.getElem?_eq_some_iff.1 hh5).1
  have hh5' : w'.drew.heap[g]? = some (.cells cur 5 (0, 0)) := hh5
  have hcg := hcv _ hh5'
  have HCV := Lib.hid hcv
  have HCV2 := Lib.hid hcv2
  have HB15 := Lib.hid (HB1.out.trans (HB.out.mono HB1.out.size))
  clear hcv hcv2
  go_region_with (go_at_call 26; refine (rput_at HF.out n HN.out _).mono ?_; rintro e w6 ⟨q, rfl, hq, hb6⟩; have hg6 := HCV.out w6 ((hb6.block g (by simpa using hlt5)).trans hh5'); have hq6 := HCV2.out w6 q hq; have HB6 := Lib.hid hb6; clear hb6)
  all_goals
    go_wp2
    go_ret
    exact ⟨rfl, HB15.out.drew.trans (HB6.out.mono (by have := HB15.out.size; simpa using this))⟩

theorem chars_any (c : Int) (w : World) (hE : Env w) : Calls Tryd.prog 8 #[.int .i64 c] w fun e w' => e = .returned (.bool true) ∧ Below w.heap.size w w' := by
  cases hf : fineB c with
  | true => exact chars_yes c w hE hf
  | false => exact chars_no c w hE hf
end Go.Proofs.YthlofckaljkhhaaDoor
