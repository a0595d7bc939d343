/- utf.Put: a character's bytes in new memory; and the document's examples ('alive'). -/
import Derived.Test.YthlofckaljkhhaaDoorRch
namespace Go.Proofs.YthlofckaljkhhaaDoor
open Go.RowKit Go.Lib

theorem encode_putZ (c : Int) (h : fineB c = true) : encodeRuneZ c = putZ c := by
  simp [fineB] at h
  unfold putZ
  by_cases h1 : c < 128
  · rw [if_pos h1, encodeRuneZ_one (by omega) (by omega)]
  · rw [if_neg h1]
    by_cases h2 : c < 2048
    · rw [if_pos h2, encodeRuneZ_two (by omega) (by omega)]
    · rw [if_neg h2]
      by_cases h3 : c < 65536
      · rw [if_pos h3, encodeRuneZ_three (by omega)]
      · rw [if_neg h3]
        rw [encodeRuneZ_four (by omega) (by omega)]

def PutPost (c : Int) (w : World) (e : Ending) (w' : World) : Prop :=
  ∃ v, e = .returned (.tuple #[v, .int .i64 0]) ∧ w'.ownsRow w.heap.size 5 1 v (putZ c).length ((putZ c).map (Value.int .u8)) ∧ Below w.heap.size w w'

def AppPost (c : Int) (w : World) (e : Ending) (w' : World) : Prop :=
  ∃ v, e = .returned v ∧ w'.ownsRow w.heap.size 5 1 v (putZ c).length ((putZ c).map (Value.int .u8)) ∧ Below w.heap.size w w'

theorem append_nil_rune (c : Int) (h : fineB c = true) (w : World) : Calls Tryd.prog 31 #[.slice none 0 0, .int .i32 c] w (AppPost c w) := by
  have ht := fineB_top h
  refine (Tryd.utf8_AppendRune_plain w.heap.size (.slice none 0 0) 0 [] c (by omega) (by omega) w (World.ownsRow_nil w w.heap.size 5 1) (by omega) (Nat.le_refl _)).mono ?_
  rintro e w' ⟨v', he, hown, o, hg⟩
  have e1 : runeCells c = (putZ c).map (Value.int .u8) := by unfold runeCells; rw [encode_putZ c h]
  rw [e1] at hown
  simp only [Nat.zero_add, List.nil_append, List.length_map] at hown
  exact ⟨v', he, hown, ((Below.refl _ _).alloc (Nat.le_refl _) o).grown hg (by simp) (fun k hk => by simp [Value.ownBlock] at hk)⟩

set_option maxHeartbeats 400000 in
theorem put_bad (c : Int) (h : fineB c = false) (w : World) : Calls Tryd.prog 20 #[.int .i64 c] w fun e w' => e = .returned (.tuple #[.slice none 0 0, .int .i64 4]) ∧ w = w' := by
  have HF := Lib.hid h
  clear h
  go_enter Tryd.func20, Tryd.ntmps20
  go_wp2_with (go_at_call 18; refine (fine_no HF.out _).mono ?_; rintro e w' ⟨rfl, rfl⟩)
  go_ret2
  exact ⟨rfl, rfl⟩

set_option maxHeartbeats 400000 in
theorem put_good (c : Int) (h : fineB c = true) (w : World) : Calls Tryd.prog 20 #[.int .i64 c] w (PutPost c w) := by
  have ht := fineB_top h
  have HF := Lib.hid h
  clear h
  go_enter Tryd.func20, Tryd.ntmps20
  go_wp2_with (first | (go_at_call 18; refine (fine_yes HF.out _).mono ?_; rintro e w' ⟨rfl, rfl⟩) | (go_at_call 31; refine (append_nil_rune c HF.out _).mono ?_; rintro e w' ⟨v, rfl, hown, hb⟩; have HO := Lib.hid hown; have HB := Lib.hid hb; clear hown hb))
  go_ret2
  exact ⟨v, rfl, HO.out, HB.out⟩

/-! ### The document's examples -/
def Env (w : World) : Prop := Utf8Tabs 0 1 w ∧ 1 < w.heap.size
theorem Env.below {w w' : World} (h : Env w) (hb : Below w.heap.size w w') : Env w' := ⟨tabs_below h.1 hb h.2, Nat.lt_of_lt_of_le h.2 hb.size⟩
theorem Env.alloc {w : World} (h : Env w) (o : Obj) : Env (w.alloc o) := h.below ((Below.refl _ _).alloc (Nat.le_refl _) _)

theorem new_cells (w : World) (s : ByteArray) (C : Array Value) (hC : ∀ j, j < s.size → C[j]? = some (.int .u8 (s.get! j).toNat)) :
    ∀ j, j < s.size → (w.alloc (.cells C 5)).cell? ⟨w.heap.size, 0 + j, none⟩ = some (.int .u8 (s.get! j).toNat) := fun j hj => by
  rw [Nat.zero_add, World.cell?_alloc_new]; exact hC j hj

theorem alive_rune (w : World) (hE : Env w) : Calls Tryd.prog 9 #[.slice (some ⟨w.heap.size, 0, none⟩) 2 2, .int .i64 0] (w.alloc (.cells #[.int .u8 195, .int .u8 164] 5)) fun e w' =>
    e = .returned (.tuple #[.int .i64 228, .int .i64 2, .int .i64 0]) ∧ Below w.heap.size w w' ∧ Env w' := by
  have hE' := hE.alloc (.cells #[.int .u8 195, .int .u8 164] 5)
  refine (rune_in ⟨#[195, 164]⟩ w.heap.size 0 2 0 2 _ rfl hE'.1 (by decide) (by decide) (by decide) (new_cells w ⟨#[195, 164]⟩ _ (fun j hj => by
    match j, hj with
    | 0, _ => rfl
    | 1, _ => rfl))).mono ?_
  rintro e w' ⟨he, hb⟩
  refine ⟨he, ((Below.refl _ _).alloc (Nat.le_refl _) _).trans (hb.mono (by simp)), hE'.below hb⟩

theorem alive_check0 (w : World) (hE : Env w) : Calls Tryd.prog 10 #[.slice (some ⟨w.heap.size, 0, none⟩) 2 2] (w.alloc (.cells #[.int .u8 192, .int .u8 128] 5)) fun e w' =>
    e = .returned (.tuple #[.int .i64 0, .int .i64 4]) ∧ Below w.heap.size w w' ∧ Env w' := by
  have hE' := hE.alloc (.cells #[.int .u8 192, .int .u8 128] 5)
  have e1 : badAt ⟨#[192, 128]⟩ = 0 := by decide
  have e2 : errAt ⟨#[192, 128]⟩ = 4 := by decide
  have h := check_some ⟨#[192, 128]⟩ w.heap.size 0 2 2 rfl _ hE'.1 hE'.2 (by decide) (by decide) (new_cells w ⟨#[192, 128]⟩ #[.int .u8 192, .int .u8 128] (fun j hj => by
    match j, hj with
    | 0, _ => rfl
    | 1, _ => rfl
    ))
  rw [e1, e2] at h
  refine h.mono ?_
  rintro e w' ⟨he, hb⟩
  exact ⟨he, ((Below.refl _ _).alloc (Nat.le_refl _) _).trans (hb.mono (by simp)), hE'.below hb⟩

theorem alive_check1 (w : World) (hE : Env w) : Calls Tryd.prog 10 #[.slice (some ⟨w.heap.size, 0, none⟩) 3 3] (w.alloc (.cells #[.int .u8 237, .int .u8 160, .int .u8 128] 5)) fun e w' =>
    e = .returned (.tuple #[.int .i64 0, .int .i64 4]) ∧ Below w.heap.size w w' ∧ Env w' := by
  have hE' := hE.alloc (.cells #[.int .u8 237, .int .u8 160, .int .u8 128] 5)
  have e1 : badAt ⟨#[237, 160, 128]⟩ = 0 := by decide
  have e2 : errAt ⟨#[237, 160, 128]⟩ = 4 := by decide
  have h := check_some ⟨#[237, 160, 128]⟩ w.heap.size 0 3 3 rfl _ hE'.1 hE'.2 (by decide) (by decide) (new_cells w ⟨#[237, 160, 128]⟩ #[.int .u8 237, .int .u8 160, .int .u8 128] (fun j hj => by
    match j, hj with
    | 0, _ => rfl
    | 1, _ => rfl
    | 2, _ => rfl
    ))
  rw [e1, e2] at h
  refine h.mono ?_
  rintro e w' ⟨he, hb⟩
  exact ⟨he, ((Below.refl _ _).alloc (Nat.le_refl _) _).trans (hb.mono (by simp)), hE'.below hb⟩

theorem alive_check2 (w : World) (hE : Env w) : Calls Tryd.prog 10 #[.slice (some ⟨w.heap.size, 0, none⟩) 3 3] (w.alloc (.cells #[.int .u8 239, .int .u8 191, .int .u8 191] 5)) fun e w' =>
    e = .returned (.tuple #[.int .i64 0, .int .i64 4]) ∧ Below w.heap.size w w' ∧ Env w' := by
  have hE' := hE.alloc (.cells #[.int .u8 239, .int .u8 191, .int .u8 191] 5)
  have e1 : badAt ⟨#[239, 191, 191]⟩ = 0 := by decide
  have e2 : errAt ⟨#[239, 191, 191]⟩ = 4 := by decide
  have h := check_some ⟨#[239, 191, 191]⟩ w.heap.size 0 3 3 rfl _ hE'.1 hE'.2 (by decide) (by decide) (new_cells w ⟨#[239, 191, 191]⟩ #[.int .u8 239, .int .u8 191, .int .u8 191] (fun j hj => by
    match j, hj with
    | 0, _ => rfl
    | 1, _ => rfl
    | 2, _ => rfl
    ))
  rw [e1, e2] at h
  refine h.mono ?_
  rintro e w' ⟨he, hb⟩
  exact ⟨he, ((Below.refl _ _).alloc (Nat.le_refl _) _).trans (hb.mono (by simp)), hE'.below hb⟩

theorem alive_check3 (w : World) (hE : Env w) : Calls Tryd.prog 10 #[.slice (some ⟨w.heap.size, 0, none⟩) 1 1] (w.alloc (.cells #[.int .u8 0] 5)) fun e w' =>
    e = .returned (.tuple #[.int .i64 0, .int .i64 4]) ∧ Below w.heap.size w w' ∧ Env w' := by
  have hE' := hE.alloc (.cells #[.int .u8 0] 5)
  have e1 : badAt ⟨#[0]⟩ = 0 := by decide
  have e2 : errAt ⟨#[0]⟩ = 4 := by decide
  have h := check_some ⟨#[0]⟩ w.heap.size 0 1 1 rfl _ hE'.1 hE'.2 (by decide) (by decide) (new_cells w ⟨#[0]⟩ #[.int .u8 0] (fun j hj => by
    match j, hj with
    | 0, _ => rfl
    ))
  rw [e1, e2] at h
  refine h.mono ?_
  rintro e w' ⟨he, hb⟩
  exact ⟨he, ((Below.refl _ _).alloc (Nat.le_refl _) _).trans (hb.mono (by simp)), hE'.below hb⟩

set_option maxHeartbeats 1000000 in
theorem alive_any (w : World) (hE : Env w) : Calls Tryd.prog 12 #[] w fun e w' => e = .returned (.bool true) ∧ Below w.heap.size w w' := by
  have HE := Lib.hid hE
  clear hE
  go_enter Tryd.func12, Tryd.ntmps12
  go_wp2_with fail
  refine (alive_rune _ HE.out).mono ?_
  rintro e w1 ⟨rfl, hb, hE⟩
  have HB1 := Lib.hid hb
  have HE1 := Lib.hid hE
  clear hb hE
  go_wp2_with fail
  refine (alive_check0 _ HE1.out).mono ?_
  rintro e w2 ⟨rfl, hb, hE⟩
  have HB2 := Lib.hid hb
  have HE2 := Lib.hid hE
  clear hb hE
  go_wp2_with fail
  refine (alive_check1 _ HE2.out).mono ?_
  rintro e w3 ⟨rfl, hb, hE⟩
  have HB3 := Lib.hid hb
  have HE3 := Lib.hid hE
  clear hb hE
  go_wp2_with fail
  refine (alive_check2 _ HE3.out).mono ?_
  rintro e w4 ⟨rfl, hb, hE⟩
  have HB4 := Lib.hid hb
  have HE4 := Lib.hid hE
  clear hb hE
  go_wp2_with fail
  refine (alive_check3 _ HE4.out).mono ?_
  rintro e w5 ⟨rfl, hb, hE⟩
  have HB5 := Lib.hid hb
  clear hb hE
  go_wp2
  go_ret
  have s1 := HB1.out.size
  have s2 := HB2.out.size
  have s3 := HB3.out.size
  have s4 := HB4.out.size
  exact ⟨rfl, (((HB1.out.trans (HB2.out.mono s1)).trans (HB3.out.mono (by omega))).trans (HB4.out.mono (by omega))).trans (HB5.out.mono (by omega))⟩
end Go.Proofs.YthlofckaljkhhaaDoor
