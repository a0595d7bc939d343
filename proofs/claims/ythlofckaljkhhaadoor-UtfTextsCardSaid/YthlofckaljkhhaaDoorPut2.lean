/- A character's bytes, as a text; and what the decoder makes of them. -/
import Derived.Test.YthlofckaljkhhaaDoorPut
namespace Go.Proofs.YthlofckaljkhhaaDoor
open Go.RowKit Go.Lib

/-- a character's bytes, as bytes -/
def putL (c : Int) : List UInt8 := (putZ c).map fun z => UInt8.ofNat z.toNat
def putS (c : Int) : ByteArray := ⟨(putL c).toArray⟩

theorem putZ_byte {c : Int} (h : fineB c = true) : ∀ z ∈ putZ c, 0 ≤ z ∧ z < 256 := by
  have ht := fineB_top h
  intro z hz
  unfold putZ at hz
  repeat' split at hz
  all_goals simp at hz
  all_goals omega

theorem putL_length (c : Int) : (putL c).length = (putZ c).length := by simp [putL]
theorem putS_size (c : Int) : (putS c).size = (putZ c).length := putL_length c
theorem putZ_pos (c : Int) : 1 ≤ (putZ c).length ∧ (putZ c).length ≤ 4 := by
  rw [putZ_len]; repeat' split
  all_goals omega

theorem ofNat_nat {z : Int} (h0 : 0 ≤ z) (h1 : z < 256) : ((UInt8.ofNat z.toNat).toNat : Int) = z := by
  rw [UInt8.toNat_ofNat_of_lt' (by show _ < 256; omega)]
  omega

theorem get!_of_list (l : List UInt8) (j : Nat) (h : j < l.length) : (⟨l.toArray⟩ : ByteArray).get! j = l[j] := by
  have e := get_at ⟨l.toArray⟩ j h
  simp only [Nat.add_zero] at e
  rw [e]
  rfl

theorem putS_get {c : Int} (h : fineB c = true) (j : Nat) (hj : j < (putZ c).length) : (((putS c).get! j).toNat : Int) = (putZ c)[j] := by
  have hl : j < (putL c).length := by rw [putL_length]; exact hj
  unfold putS
  rw [get!_of_list _ j hl]
  have e : (putL c)[j] = UInt8.ofNat ((putZ c)[j]).toNat := by simp [putL]
  rw [e]
  have hb := putZ_byte h _ (List.getElem_mem hj)
  exact ofNat_nat hb.1 hb.2

theorem cells_put {c : Int} (h : fineB c = true) : ((putZ c).map (Value.int .u8)) = (putL c).map fun b => Value.int .u8 (b.toNat : Int) := by
  simp only [putL, List.map_map]
  refine List.map_congr_left fun z hz => ?_
  have hb := putZ_byte h z hz
  simp only [Function.comp, ofNat_nat hb.1 hb.2]

/-- THE DECODER AT A CHARACTER's BYTES: the character, and all of its bytes. -/
theorem decode_put {c : Int} (h : fineB c = true) (s : ByteArray) (k : Nat) (hk : k + (putZ c).length ≤ s.size)
    (hs : ∀ j, j < (putZ c).length → ((s.get! (k + j)).toNat : Int) = (putZ c).getD j 0) : Utf8.decode s k = (c.toNat, (putZ c).length) := by
  have ht := fineB_top h
  have hsur : c < 55296 ∨ 57344 ≤ c := by simp [fineB] at h; omega
  rw [decode_at]
  have h0 := hs 0 (putZ_pos c).1
  by_cases h1 : c < 128
  · have e : putZ c = [c] := by unfold putZ; rw [if_pos h1]
    rw [e] at h0 ⊢
    simp at h0
    rw [dec1 _ _ _ _ _ (by omega)]
    simp; omega
  · by_cases h2 : c < 2048
    · have e : putZ c = [192 + c / 64, 128 + c % 64] := by unfold putZ; rw [if_neg h1, if_pos h2]
      have g1 := hs 1 (by rw [e]; simp)
      rw [e] at h0 g1 hk ⊢
      simp at h0 g1 hk
      rw [dec2 _ _ _ _ _ (by omega) (by omega), if_pos (by omega)]
      simp; omega
    · by_cases h3 : c < 65536
      · have e : putZ c = [224 + c / 4096, 128 + c / 64 % 64, 128 + c % 64] := by unfold putZ; rw [if_neg h1, if_neg h2, if_pos h3]
        have g1 := hs 1 (by rw [e]; simp)
        have g2 := hs 2 (by rw [e]; simp)
        rw [e] at h0 g1 g2 hk ⊢
        simp at h0 g1 g2 hk
        rw [dec3 _ _ _ _ _ (by omega) (by omega), if_pos (by omega)]
        simp; omega
      · have e : putZ c = [240 + c / 262144, 128 + c / 4096 % 64, 128 + c / 64 % 64, 128 + c % 64] := by unfold putZ; rw [if_neg h1, if_neg h2, if_neg h3]
        have g1 := hs 1 (by rw [e]; simp)
        have g2 := hs 2 (by rw [e]; simp)
        have g3 := hs 3 (by rw [e]; simp)
        rw [e] at h0 g1 g2 g3 hk ⊢
        simp at h0 g1 g2 g3 hk
        rw [dec4 _ _ _ _ _ (by omega) (by omega), if_pos (by omega)]
        simp; omega

theorem good_put {c : Int} (h : fineB c = true) : goodD (c.toNat, (putZ c).length) = true := by
  have ht := fineB_top h
  have e : ((c.toNat : Nat) : Int) = c := by omega
  unfold goodD
  simp only [e, h, Bool.and_true, Bool.not_eq_true', Bool.and_eq_false_iff, beq_eq_false_iff_ne, decide_eq_false_iff_not]
  rw [putZ_len]
  by_cases h2 : c.toNat = 65533
  · refine Or.inr ?_
    have : c = 65533 := by omega
    subst this
    decide
  · exact Or.inl h2

/-- utf.Put, all that the laws want: where the bytes lie. -/
def PutAt (c : Int) (w : World) (e : Ending) (w' : World) : Prop :=
  ∃ g cap cur, e = .returned (.tuple #[.slice (some ⟨g, 0, none⟩) (putZ c).length cap, .int .i64 0]) ∧ w.heap.size ≤ g ∧ Below w.heap.size w w' ∧
    w'.heap[g]? = some (.cells cur 5 (0, 0)) ∧ (putZ c).length ≤ cap ∧ cap ≤ 9223372036854775807 ∧ cur.size = cap ∧ cur.toList.take (putZ c).length = (putL c).map fun b => Value.int .u8 (b.toNat : Int)

theorem put_at (c : Int) (h : fineB c = true) (w : World) : Calls Tryd.prog 20 #[.int .i64 c] w (PutAt c w) := by
  refine (put_good c h w).mono ?_
  rintro e w' ⟨v, rfl, hown, hb⟩
  have hp := putZ_pos c
  rcases hown.2 with ⟨rfl, h0⟩ | ⟨g, cap, cur, rfl, hg, hh, hn, hm, hsz, ht⟩
  · omega
  · unfold maxLen at hm
    rw [cells_put h] at ht
    simp only [Nat.mul_one] at ht hsz
    exact ⟨g, cap, cur, rfl, hg, hb, hh, hn, hm, hsz, ht⟩

/-- the cells of a block whose head is known -/
theorem head_cells {w : World} {g : Nat} {cur : Array Value} {l : List UInt8} (hh : w.heap[g]? = some (.cells cur 5 (0, 0))) (ht : cur.toList.take l.length = l.map fun b => Value.int .u8 (b.toNat : Int)) :
    ∀ j, j < (⟨l.toArray⟩ : ByteArray).size → w.cell? ⟨g, 0 + j, none⟩ = some (.int .u8 ((⟨l.toArray⟩ : ByteArray).get! j).toNat) := fun j hj => by
  have hj' : j < l.length := hj
  rw [Nat.zero_add, cell_of_row w g j cur 5 (0, 0) hh, get!_of_list l j hj']
  have e := congrArg (·[j]?) ht
  simp only [List.getElem?_take, hj', if_true, List.getElem?_map, List.getElem?_eq_getElem hj', Option.map_some, Array.getElem?_toList] at e
  exact e

theorem byt_put {w : World} {g cap : Nat} {cur : Array Value} {c : Int} (hh : w.heap[g]? = some (.cells cur 5 (0, 0))) (hn : (putZ c).length ≤ cap) (hm : cap ≤ 9223372036854775807)
    (ht : cur.toList.take (putZ c).length = (putL c).map fun b => Value.int .u8 (b.toNat : Int)) : Byt w (some ⟨g, 0, none⟩) (putZ c).length cap (putS c) := by
  refine ⟨(putS_size c).symm, hn, hm, Or.inr ⟨g, 0, rfl, (Array.getElem?_eq_some_iff.1 hh).1, head_cells hh (by rw [putL_length]; exact ht)⟩⟩
end Go.Proofs.YthlofckaljkhhaaDoor
