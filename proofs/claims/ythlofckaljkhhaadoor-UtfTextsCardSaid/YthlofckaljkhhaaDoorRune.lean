/- utf.Rune: the character at a place, by the model's own decoder. -/
import Derived.Test.YthlofckaljkhhaaDoorKinds
import Derived.Test.YthlofckaljkhhaaDoorShelf
import Derived.Lib.RuneCountTail
import Derived.Lib.OthersKept
import Derived.Deep.LoopGhost
import Derived.Lib.Hide
import Derived.Deep.DeepFit
import Derived.WalkSpells
namespace Go.Proofs.YthlofckaljkhhaaDoor
open Go.RowKit Go.Lib

/-- is what the decoder hands back a character that may be? -/
def goodD (d : Nat × Nat) : Bool := !(d.1 == 65533 && decide (d.2 < 2)) && fineB (d.1 : Int)

def runeG (s : ByteArray) (k : Nat) : Int × Int × Int :=
  if goodD (Utf8.decode s k) then (((Utf8.decode s k).1 : Int), ((Utf8.decode s k).2 : Int), 0) else (0, 0, 4)

theorem ret_rune {a b c a' b' c' : Int} (h1 : a = a') (h2 : b = b') (h3 : c = c') :
    Ending.returned (.tuple #[.int .i64 a, .int .i64 b, .int .i64 c]) = .returned (.tuple #[.int .i64 a', .int .i64 b', .int .i64 c']) := by rw [h1, h2, h3]

theorem get!_extract (s : ByteArray) (k j : Nat) : (s.extract k s.size).get! j = s.get! (k + j) := tail_get! s k j

theorem decode_tail (s : ByteArray) (k : Nat) (h : k < s.size) : decodeGo (s.extract k s.size) = Utf8.decode s k := by
  have h1 : ¬ (s.extract k s.size).size = 0 := by rw [tail_size]; omega
  simp only [decodeGo, h1, if_false]
  exact tail_decode s k 0

theorem decode_cells (s : ByteArray) (b off cap k n : Nat) (w : World) (hT : Utf8Tabs 0 1 w) (hk : k < s.size) (hn : n = s.size - k)
    (hp : ∀ j, j < s.size → w.cell? ⟨b, off + j, none⟩ = some (.int .u8 (s.get! j).toNat)) :
    Calls Tryd.prog 27 #[.slice (some ⟨b, off + k, none⟩) n cap] w fun e w' =>
      e = .returned (.tuple #[.int .i32 (Utf8.decode s k).1, .int .i64 (Utf8.decode s k).2]) ∧ Below w.heap.size w w' := by
  have h := Tryd.utf8_DecodeRune (s.extract k s.size) b (off + k) cap w hT (fun j hj => by
    rw [tail_size] at hj
    rw [get!_extract, Nat.add_assoc]
    exact hp (k + j) (by omega))
  rw [tail_size, decode_tail s k hk, ← hn] at h
  exact h

theorem width_le (s : ByteArray) (k : Nat) (h : k < s.size) : 1 ≤ (Utf8.decode s k).2 ∧ (Utf8.decode s k).2 ≤ s.size - k ∧ (Utf8.decode s k).2 ≤ 4 := by
  rw [decode_at]
  unfold decodeN
  repeat' split
  all_goals simp
  all_goals omega

theorem rune_le' (s : ByteArray) (k : Nat) : (Utf8.decode s k).1 ≤ 1114111 := by
  have h0 := (s.get! k).toNat_lt
  rw [decode_at]
  unfold decodeN
  repeat' split
  all_goals simp
  all_goals omega

set_option maxHeartbeats 400000 in
theorem rune_out (v : Value) (n : Nat) (b : Option Addr) (cap : Nat) (i : Int) (w : World) (hv : v = .slice b n cap) (h : i < 0 ∨ (n : Int) ≤ i) (_hn : n ≤ 9223372036854775807) :
    Calls Tryd.prog 9 #[v, .int .i64 i] w fun e w' => e = .returned (.tuple #[.int .i64 0, .int .i64 0, .int .i64 3]) ∧ w = w' := by
  subst hv
  by_cases h0 : i < 0
  · go_enter Tryd.func9, Tryd.ntmps9
    go_wp2
    go_ret3
    exact ⟨rfl, rfl⟩
  · have h1 : (n : Int) ≤ i := by omega
    clear h
    go_enter Tryd.func9, Tryd.ntmps9
    go_wp2
    go_ret3
    exact ⟨rfl, rfl⟩

def SliceAt (b off n cap : Nat) : Value := .slice (some ⟨b, off, none⟩) n cap

set_option maxHeartbeats 400000 in
theorem rune_core_a (b off cap n k R K : Nat) (w : World) (hk : k < n) (hc : n ≤ cap) (_hm : cap ≤ 9223372036854775807) (hr : R ≤ 1114111) (hK : K ≤ 4)
    (hd : Calls Tryd.prog 27 #[.slice (some ⟨b, off + k, none⟩) (n - k) (cap - k)] w fun e w' => e = .returned (.tuple #[.int .i32 R, .int .i64 K]) ∧ Below w.heap.size w w')
    (h1 : R = 65533) (h2 : K < 2) :
    Calls Tryd.prog 9 #[.slice (some ⟨b, off, none⟩) n cap, .int .i64 (k : Int)] w fun e w' =>
      e = .returned (.tuple #[.int .i64 0, .int .i64 0, .int .i64 4]) ∧ Below w.heap.size w w' := by
  have HD := Lib.hid hd
  clear hd
  subst h1
  go_enter Tryd.func9, Tryd.ntmps9
  go_wp2_with fail
  refine HD.out.mono ?_
  rintro e w' ⟨rfl, hb⟩
  have HB := Lib.hid hb
  clear hb
  go_wp2
  go_ret3
  exact ⟨rfl, HB.out⟩

set_option maxHeartbeats 400000 in
theorem rune_core_b (b off cap n k R K : Nat) (w : World) (hk : k < n) (hc : n ≤ cap) (_hm : cap ≤ 9223372036854775807) (hr : R ≤ 1114111) (_hK : K ≤ 4)
    (hd : Calls Tryd.prog 27 #[.slice (some ⟨b, off + k, none⟩) (n - k) (cap - k)] w fun e w' => e = .returned (.tuple #[.int .i32 R, .int .i64 K]) ∧ Below w.heap.size w w')
    (h1 : ((R : Int) == 65533) = false) (h2 : fineB (R : Int) = false) :
    Calls Tryd.prog 9 #[.slice (some ⟨b, off, none⟩) n cap, .int .i64 (k : Int)] w fun e w' =>
      e = .returned (.tuple #[.int .i64 0, .int .i64 0, .int .i64 4]) ∧ Below w.heap.size w w' := by
  have HD := Lib.hid hd
  clear hd
  have HF := Lib.hid h2
  clear h2
  go_enter Tryd.func9, Tryd.ntmps9
  go_wp2_with fail
  refine HD.out.mono ?_
  rintro e w' ⟨rfl, hb⟩
  have HB := Lib.hid hb
  clear hb
  go_wp2_with (go_at_call 18; refine (fine_no HF.out _).mono ?_; rintro e w' ⟨rfl, rfl⟩)
  go_ret3
  exact ⟨rfl, HB.out⟩

set_option maxHeartbeats 400000 in
theorem rune_core_c (b off cap n k R K : Nat) (w : World) (hk : k < n) (hc : n ≤ cap) (_hm : cap ≤ 9223372036854775807) (hr : R ≤ 1114111) (hK : K ≤ 4)
    (hd : Calls Tryd.prog 27 #[.slice (some ⟨b, off + k, none⟩) (n - k) (cap - k)] w fun e w' => e = .returned (.tuple #[.int .i32 R, .int .i64 K]) ∧ Below w.heap.size w w')
    (h1 : ((R : Int) == 65533) = false ∨ 2 ≤ K) (h2 : fineB (R : Int) = true) :
    Calls Tryd.prog 9 #[.slice (some ⟨b, off, none⟩) n cap, .int .i64 (k : Int)] w fun e w' =>
      e = .returned (.tuple #[.int .i64 R, .int .i64 K, .int .i64 0]) ∧ Below w.heap.size w w' := by
  have HD := Lib.hid hd
  clear hd
  have HF := Lib.hid h2
  clear h2
  rcases h1 with h1 | h1
  · go_enter Tryd.func9, Tryd.ntmps9
    go_wp2_with fail
    refine HD.out.mono ?_
    rintro e w' ⟨rfl, hb⟩
    have HB := Lib.hid hb
    clear hb
    go_wp2_with (go_at_call 18; refine (fine_yes HF.out _).mono ?_; rintro e w' ⟨rfl, rfl⟩)
    go_ret3
    exact ⟨rfl, HB.out⟩
  · have h3 : ((R : Int) == 65533) = false ∨ R = 65533 := by simp; omega
    rcases h3 with h3 | rfl
    all_goals
      go_enter Tryd.func9, Tryd.ntmps9
      go_wp2_with fail
      refine HD.out.mono ?_
      rintro e w' ⟨rfl, hb⟩
      have HB := Lib.hid hb
      clear hb
      go_wp2_with (go_at_call 18; refine (fine_yes HF.out _).mono ?_; rintro e w' ⟨rfl, rfl⟩)
      go_ret3
      exact ⟨rfl, HB.out⟩

theorem rune_in (s : ByteArray) (b off cap k n : Nat) (w : World) (hn : n = s.size) (hT : Utf8Tabs 0 1 w) (hk : k < n) (hc : n ≤ cap) (hm : cap ≤ 9223372036854775807)
    (hp : ∀ j, j < s.size → w.cell? ⟨b, off + j, none⟩ = some (.int .u8 (s.get! j).toNat)) :
    Calls Tryd.prog 9 #[.slice (some ⟨b, off, none⟩) n cap, .int .i64 (k : Int)] w fun e w' =>
      e = .returned (.tuple #[.int .i64 (runeG s k).1, .int .i64 (runeG s k).2.1, .int .i64 (runeG s k).2.2]) ∧ Below w.heap.size w w' := by
  subst hn
  have hd := decode_cells s b off (cap - k) k (s.size - k) w hT hk rfl hp
  have hw := width_le s k hk
  have hr := rune_le' s k
  cases hg : goodD (Utf8.decode s k) with
  | true =>
    have e : runeG s k = (((Utf8.decode s k).1 : Int), ((Utf8.decode s k).2 : Int), 0) := by simp [runeG, hg]
    rw [e]
    unfold goodD at hg
    simp only [Bool.and_eq_true, Bool.not_eq_true', Bool.and_eq_false_iff, beq_eq_false_iff_ne, decide_eq_false_iff_not] at hg
    refine rune_core_c b off cap s.size k _ _ w hk hc hm hr hw.2.2 hd ?_ hg.2
    rcases hg.1 with h | h
    · exact Or.inl (by rw [beq_eq_false_iff_ne]; omega)
    · exact Or.inr (by omega)
  | false =>
    have e : runeG s k = (0, 0, 4) := by simp [runeG, hg]
    rw [e]
    by_cases h1 : (Utf8.decode s k).1 = 65533 ∧ (Utf8.decode s k).2 < 2
    · exact rune_core_a b off cap s.size k _ _ w hk hc hm hr hw.2.2 hd h1.1 h1.2
    · have hf : fineB ((Utf8.decode s k).1 : Int) = false := by
        unfold goodD at hg
        rw [Bool.and_eq_false_iff] at hg
        rcases hg with h | h
        · exfalso
          simp at h
          exact h1 h
        · exact h
      refine rune_core_b b off cap s.size k _ _ w hk hc hm hr hw.2.2 hd ?_ hf
      rw [beq_eq_false_iff_ne]
      intro h
      rw [h] at hf
      exact absurd hf (by decide)
end Go.Proofs.YthlofckaljkhhaaDoor
