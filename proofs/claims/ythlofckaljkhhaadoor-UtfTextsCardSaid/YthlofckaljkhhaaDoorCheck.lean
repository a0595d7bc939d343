/- utf.Check: the place at which bytes are not right, by the model's own decoder. -/
import Derived.Test.YthlofckaljkhhaaDoorRune
import Derived.Laws.IdiomStrings
import Derived.Laws.BytesArg
namespace Go.Proofs.YthlofckaljkhhaaDoor
open Go.RowKit Go.Lib

/-- from place k on, by at most so many characters: where the first one stands that is not right; the length, if all are -/
def badFrom (s : ByteArray) : Nat → Nat → Nat
  | 0, k => k
  | g + 1, k => if k < s.size then (if goodD (Utf8.decode s k) then badFrom s g (k + (Utf8.decode s k).2) else k) else k
def badAt (s : ByteArray) : Nat := badFrom s s.size 0
def errAt (s : ByteArray) : Int := if badAt s < s.size then 4 else 0

theorem badFrom_le (s : ByteArray) : ∀ g k, k ≤ s.size → badFrom s g k ≤ s.size
  | 0, k, h => h
  | g + 1, k, h => by
    unfold badFrom
    split
    · rename_i hk
      split
      · have := width_le s k hk
        exact badFrom_le s g _ (by omega)
      · omega
    · exact h

theorem badAt_le (s : ByteArray) : badAt s ≤ s.size := badFrom_le s s.size 0 (Nat.zero_le _)

theorem ret_two {a b a' b' : Int} (h1 : a = a') (h2 : b = b') : Ending.returned (.tuple #[.int .i64 a, .int .i64 b]) = .returned (.tuple #[.int .i64 a', .int .i64 b']) := by rw [h1, h2]

theorem addr_add (b off j : Nat) : (⟨b, off, none⟩ : Addr).add j = ⟨b, off + j, none⟩ := by unfold Addr.add; split <;> simp_all

theorem conv_bytes (s : ByteArray) (b off cap n : Nat) (hn : n = s.size) (w : World)
    (hp : ∀ j, j < s.size → w.cell? ⟨b, off + j, none⟩ = some (.int .u8 (s.get! j).toNat)) :
    (convert 22 9 (.slice (some ⟨b, off, none⟩) n cap)).run Tryd.prog w = .ok (.string s) w := by
  have hs : Tryd.prog.underlying 22 = some (.slice 5) := Tryd.underlying22
  have he : Tryd.prog.underlying 5 = some (.int .u8) := Tryd.underlying5
  have hd : Tryd.prog.underlying 9 = some .string := Tryd.underlying9
  have h := run_convert_bytes_back (P := Tryd.prog) w 22 9 5 ⟨b, off, none⟩ cap s.data.toList hs he hd (fun j hj => by
    have hj' : j < s.size := by have h := hj; rw [Array.length_toList] at h; exact h
    rw [addr_add, hp j hj']
    have e := get_at s j hj'
    simp only [Nat.add_zero] at e
    rw [e]
    rfl)
  have e1 : s.data.toList.length = n := by rw [hn, Array.length_toList]; rfl
  have e2 : (⟨s.data.toList.toArray⟩ : ByteArray) = s := by rw [Array.toArray_toList]
  rw [e1, e2] at h
  exact h

theorem decode_str (s : ByteArray) (k : Nat) (w : World) (hT : Utf8Tabs 0 1 w) (hk : k < s.size) :
    Calls Tryd.prog 28 #[.string (s.extract k s.size)] w fun e w' =>
      e = .returned (.tuple #[.int .i32 (Utf8.decode s k).1, .int .i64 (Utf8.decode s k).2]) ∧ Below w.heap.size w w' := by
  have h := Tryd.utf8_DecodeRuneInString (s.extract k s.size) w hT
  rw [decode_tail s k hk] at h
  exact h

theorem tabs_below {w w' : World} {B : Nat} (h : Utf8Tabs 0 1 w) (hb : Below B w w') (hB : 1 < B) : Utf8Tabs 0 1 w' := by
  refine ⟨fun c hc => ?_, fun i hi => ⟨?_, ?_⟩⟩
  · rw [hb.cell (by simp; omega)]; exact h.1 c hc
  · rw [hb.cell (by simpa using hB)]; exact (h.2 i hi).1
  · rw [hb.cell (by simpa using hB)]; exact (h.2 i hi).2

set_option maxHeartbeats 1000000 in
theorem check_any (s : ByteArray) (p : Option Addr) (cap n : Nat) (hn : n = s.size) (w : World) (hT : Utf8Tabs 0 1 w) (hB : 1 < w.heap.size) (_hsz : s.size ≤ 9223372036854775807)
    (hcv : (convert 22 9 (.slice p n cap)).run Tryd.prog w = .ok (.string s) w) :
    Calls Tryd.prog 10 #[.slice p n cap] w fun e w' =>
      e = .returned (.tuple #[.int .i64 (badAt s : Nat), .int .i64 (errAt s)]) ∧ Below w.heap.size w w' := by
  have HN := Lib.hid hn
  clear hn
  go_enter Tryd.func10, Tryd.ntmps10
  go_wp2
  go_loopg [] s.size (fun g wx => ∃ pos : Nat, wx.heap[w.heap.size]? = some (.stringIter s pos) ∧ Below w.heap.size w wx ∧ badFrom s g pos = badAt s ∧ pos ≤ s.size ∧ s.size ≤ pos + g)
  case atStart => exact ⟨0, World.iter_heap w s 0, (Below.refl _ w).alloc (Nat.le_refl _) _, rfl, Nat.zero_le _, by omega⟩
  case round =>
    obtain ⟨pos, hit, hbw, hbad, hps, hfu⟩ := hrel
    clear hcv
    by_cases hp : pos < s.size
    · obtain ⟨g, rfl⟩ : ∃ g, gk = g + 1 := ⟨gk - 1, by omega⟩
      have hnx : ∀ ty, (Instr.next (.pointer (some ⟨w.heap.size, 0, none⟩)) true ty).run Tryd.prog wr = _ := fun ty => Lib.run_next_any_at wr w.heap.size s pos ty hit hp
      have hwd := width_le s pos hp
      have hr1 := rune_le' s pos
      simp only [badFrom, hp, if_true] at hbad
      have hit2 := Lib.iterAt_heap wr w.heap.size s pos (pos + (Utf8.decode s pos).2) hit
      have hbw2 := Lib.below_iterAt hbw (k := w.heap.size) (Nat.le_refl _) s (pos + (Utf8.decode s pos).2)
      obtain ⟨W, hWd⟩ : ∃ W, wr.iterAt w.heap.size s (pos + (Utf8.decode s pos).2) = W := ⟨_, rfl⟩
      rw [hWd] at hnx hit2 hbw2
      have hTW : Utf8Tabs 0 1 W := tabs_below hT hbw2 hB
      have cD := decode_str s pos W hTW hp
      have hdec : Utf8.decode s pos = ((Utf8.decode s pos).1, (Utf8.decode s pos).2) := rfl
      obtain ⟨R, hR⟩ : ∃ R, (Utf8.decode s pos).1 = R := ⟨_, rfl⟩
      obtain ⟨K, hK⟩ : ∃ K, (Utf8.decode s pos).2 = K := ⟨_, rfl⟩
      rw [hdec, hR, hK] at hbad
      rw [hR] at hnx hr1
      rw [hK] at hwd hit2
      rw [hR, hK] at cD
      clear hdec hR hK hWd hit
      have hWs : w.heap.size < W.heap.size := (Array.getElem?_eq_some_iff.1 hit2).1
      have CD := Lib.hid cD
      have HB := Lib.hid hbad
      have HBW := Lib.hid hbw2
      have HIT := Lib.hid hit2
      have HPS := Lib.hid hps
      have HBR := Lib.hid hbw
      clear cD hbad hbw2 hit2 hTW hT hbw hps
      cases hg : goodD (R, K) with
      | true =>
        rw [hg] at HB
        have hgg := hg
        unfold goodD at hgg
        simp only [Bool.and_eq_true, Bool.not_eq_true', Bool.and_eq_false_iff, beq_eq_false_iff_ne, decide_eq_false_iff_not] at hgg
        have HF := Lib.hid hgg.2
        by_cases h1 : R = 65533
        · have h2 : 2 ≤ K := by omega
          subst h1
          clear hg hgg
          go_wp2_with (first | (go_at_call 28; refine CD.out.mono ?_; rintro e w' ⟨rfl, hb⟩; have HB2 := Lib.hid hb; clear hb) | (go_at_call 18; refine (fine_yes HF.out _).mono ?_; rintro e w' ⟨rfl, rfl⟩))
          go_roundg g
          case measure => omega
          case rel => exact ⟨pos + K, (HB2.out.block w.heap.size hWs).trans HIT.out, HBW.out.trans (HB2.out.mono (by omega)), by simpa using HB.out, by omega, by omega⟩
        · have h2 : ((R : Int) == 65533) = false := by rw [beq_eq_false_iff_ne]; omega
          clear hg hgg h1
          go_wp2_with (go_at_call 18; refine (fine_yes HF.out _).mono ?_; rintro e w' ⟨rfl, rfl⟩)
          go_roundg g
          case measure => omega
          case rel => exact ⟨pos + K, HIT.out, HBW.out, by simpa using HB.out, by omega, by omega⟩
      | false =>
        rw [hg] at HB
        have HE : Hid (badAt s = pos) := by have := HB.out; simp at this; exact this.symm
        have HX : Hid (errAt s = 4) := by show errAt s = 4; unfold errAt; rw [HE.out, if_pos hp]
        clear HB
        have hgg := hg
        unfold goodD at hgg
        rw [Bool.and_eq_false_iff] at hgg
        by_cases h1 : R = 65533 ∧ K < 2
        · obtain ⟨rfl, h2⟩ := h1
          clear hg hgg
          go_wp2_with (go_at_call 28; refine CD.out.mono ?_; rintro e w' ⟨rfl, hb⟩; have HB2 := Lib.hid hb; clear hb)
          go_ret2
          exact ⟨ret_two (by rw [HE.out]) (by rw [HX.out]), HBW.out.trans (HB2.out.mono (by omega))⟩
        · have hf : fineB (R : Int) = false := by
            rcases hgg with h | h
            · exfalso
              simp at h
              exact h1 h
            · exact h
          have h2 : ((R : Int) == 65533) = false := by
            rw [beq_eq_false_iff_ne]
            intro h
            rw [h] at hf
            exact absurd hf (by decide)
          have HF := Lib.hid hf
          clear hf hg hgg h1
          go_wp2_with (go_at_call 18; refine (fine_no HF.out _).mono ?_; rintro e w' ⟨rfl, rfl⟩)
          go_ret2
          exact ⟨ret_two (by rw [HE.out]) (by rw [HX.out]), HBW.out⟩
    · have hnx : ∀ ty, (Instr.next (.pointer (some ⟨w.heap.size, 0, none⟩)) true ty).run Tryd.prog wr = _ := fun ty => Lib.run_next_end_at wr w.heap.size s pos ty hit hp
      have hbad' : badAt s = s.size := by
        have e : pos = s.size := by omega
        rw [← hbad, e]
        cases gk <;> simp [badFrom]
      have HE := Lib.hid hbad'
      have HBW := Lib.hid hbw
      clear hbad' hbw hbad hit
      go_wp2
      go_ret2
      exact ⟨by rw [errAt, HE.out]; simp [HN.out], HBW.out⟩

theorem check_some (s : ByteArray) (b off cap n : Nat) (hn : n = s.size) (w : World) (hT : Utf8Tabs 0 1 w) (hB : 1 < w.heap.size) (hc : n ≤ cap) (hm : cap ≤ 9223372036854775807)
    (hp : ∀ j, j < s.size → w.cell? ⟨b, off + j, none⟩ = some (.int .u8 (s.get! j).toNat)) :
    Calls Tryd.prog 10 #[.slice (some ⟨b, off, none⟩) n cap] w fun e w' =>
      e = .returned (.tuple #[.int .i64 (badAt s : Nat), .int .i64 (errAt s)]) ∧ Below w.heap.size w w' :=
  check_any s _ cap n hn w hT hB (by omega) (conv_bytes s b off cap n hn w hp)

theorem conv_zero (w : World) (p : Option Addr) (c : Nat) : (convert 22 9 (.slice p 0 c)).run Tryd.prog w = .ok (.string ByteArray.empty) w := by
  rw [run_convert_bytes_string w 22 9 5 _ 0 c Tryd.underlying22 Tryd.underlying5 Tryd.underlying9]
  cases p <;> simp [Conv.bytesToString, loadCells]
  all_goals rfl

theorem check_zero (p : Option Addr) (cap : Nat) (w : World) (hT : Utf8Tabs 0 1 w) (hB : 1 < w.heap.size) :
    Calls Tryd.prog 10 #[.slice p 0 cap] w fun e w' =>
      e = .returned (.tuple #[.int .i64 (badAt ByteArray.empty : Nat), .int .i64 (errAt ByteArray.empty)]) ∧ Below w.heap.size w w' :=
  check_any ByteArray.empty p cap 0 rfl w hT hB (by decide) (conv_zero w p cap)
end Go.Proofs.YthlofckaljkhhaaDoor
