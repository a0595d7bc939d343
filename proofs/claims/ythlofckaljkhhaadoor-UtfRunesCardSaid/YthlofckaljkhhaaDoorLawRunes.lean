/- UtfRunes: of any bytes and any place the two agree; the law's walk: it returns true. -/
import Derived.Test.YthlofckaljkhhaaDoorPut
namespace Go.Proofs.YthlofckaljkhhaaDoor
open Go.RowKit Go.Lib

def TrueBelow2 (w : World) (e : Ending) (w' : World) : Prop := e = .returned (.bool true) ∧ Below w.heap.size w w'

/-- what the three calls at the head give: the two places, and the error that goes with them -/
theorem err_cases (s : ByteArray) : (badAt s < s.size ∧ errAt s = 4) ∨ (badAt s = s.size ∧ errAt s = 0) := by
  have h := badAt_le s
  unfold errAt
  by_cases h1 : badAt s < s.size
  · exact Or.inl ⟨h1, by rw [if_pos h1]⟩
  · exact Or.inr ⟨by omega, by rw [if_neg h1]⟩

set_option maxRecDepth 100000 in
set_option maxHeartbeats 2000000 in
theorem runes_out (b : Option Addr) (n cap : Nat) (i : Int) (s : ByteArray) (hn : n = s.size) (w : World) (hE : Env w) (h : i < 0 ∨ (n : Int) ≤ i) (hn63 : n ≤ 9223372036854775807)
    (hC : ∀ w1, Below w.heap.size w w1 → Calls Tryd.prog 10 #[.slice b n cap] w1 fun e w' => e = .returned (.tuple #[.int .i64 (badAt s : Nat), .int .i64 (errAt s)]) ∧ Below w1.heap.size w1 w')
    (hR : ∀ w1, Below w.heap.size w w1 → Calls Tryd.prog 11 #[.slice b n cap] w1 fun e w' => e = .returned (.int .i64 (badAt s : Nat)) ∧ Below w1.heap.size w1 w') :
    Calls Tryd.prog 3 #[.slice b n cap, .int .i64 i] w (TrueBelow2 w) := by
  have hle := badAt_le s
  have hO := rune_out (.slice b n cap) n b cap i w rfl h hn63
  have h0 : i < 0 ∨ (0 ≤ i ∧ (n : Int) ≤ i) := by omega
  have HC := Lib.hid hC
  have HR := Lib.hid hR
  have HO := Lib.hid hO
  have HE := Lib.hid hE
  clear hC hR hO hE h
  rcases err_cases s with ⟨h1, h2⟩ | ⟨h1, h2⟩
  · rw [← hn] at h1
    rw [h2] at HC
    obtain ⟨B, hB⟩ : ∃ B, badAt s = B := ⟨_, rfl⟩
    rw [hB] at HC HR h1
    have hne : ((B : Int) == (n : Int)) = false := by rw [beq_eq_false_iff_ne]; omega
    clear hB h2 hn hle
    rcases h0 with h0 | ⟨h0, h0'⟩
    all_goals
      go_enter Tryd.func3, Tryd.ntmps3
      go_wp2_with fail
      refine HO.out.mono ?_
      rintro e w' ⟨rfl, rfl⟩
      go_wp2_with fail
      refine (HC.out _ (Below.refl _ _)).mono ?_
      rintro e w2 ⟨rfl, hb⟩
      have HB2 := Lib.hid hb
      clear hb
      go_wp2_with fail
      refine (HR.out _ HB2.out).mono ?_
      rintro e w3 ⟨rfl, hb⟩
      have HB3 := Lib.hid (HB2.out.trans (hb.mono HB2.out.size))
      clear hb
      go_wp2_with (go_at_call 12; refine (alive_any _ (HE.out.below HB3.out)).mono ?_; rintro e w' ⟨rfl, hb⟩; have HB := Lib.hid hb; clear hb)
      go_ret
      exact ⟨rfl, HB3.out.trans (HB.out.mono HB3.out.size)⟩
  · rw [← hn] at h1
    rw [h2, h1] at HC
    rw [h1] at HR
    clear h2 h1 hle hn
    rcases h0 with h0 | ⟨h0, h0'⟩
    all_goals
      go_enter Tryd.func3, Tryd.ntmps3
      go_wp2_with fail
      refine HO.out.mono ?_
      rintro e w' ⟨rfl, rfl⟩
      go_wp2_with fail
      refine (HC.out _ (Below.refl _ _)).mono ?_
      rintro e w2 ⟨rfl, hb⟩
      have HB2 := Lib.hid hb
      clear hb
      go_wp2_with fail
      refine (HR.out _ HB2.out).mono ?_
      rintro e w3 ⟨rfl, hb⟩
      have HB3 := Lib.hid (HB2.out.trans (hb.mono HB2.out.size))
      clear hb
      go_wp2_with (go_at_call 12; refine (alive_any _ (HE.out.below HB3.out)).mono ?_; rintro e w' ⟨rfl, hb⟩; have HB := Lib.hid hb; clear hb)
      go_ret
      exact ⟨rfl, HB3.out.trans (HB.out.mono HB3.out.size)⟩

set_option maxRecDepth 100000 in
set_option maxHeartbeats 2000000 in
theorem runes_core (b off n cap k B : Nat) (E : Int) (R K : Nat) (X : Int) (w : World) (hE : Env w) (hk : k < n) (hc : n ≤ cap) (_hm : cap ≤ 9223372036854775807)
    (h1 : (((B : Int) == (n : Int)) = false ∧ E = 4) ∨ (B = n ∧ E = 0)) (h2 : (X = 0 ∧ 1 ≤ K ∧ K ≤ 4) ∨ (X = 4 ∧ R = 0 ∧ K = 0))
    (hO : Calls Tryd.prog 9 #[.slice (some ⟨b, off, none⟩) n cap, .int .i64 (k : Int)] w fun e w' => e = .returned (.tuple #[.int .i64 R, .int .i64 K, .int .i64 X]) ∧ Below w.heap.size w w')
    (hC : ∀ w1, Below w.heap.size w w1 → Calls Tryd.prog 10 #[.slice (some ⟨b, off, none⟩) n cap] w1 fun e w' => e = .returned (.tuple #[.int .i64 B, .int .i64 E]) ∧ Below w1.heap.size w1 w')
    (hR : ∀ w1, Below w.heap.size w w1 → Calls Tryd.prog 11 #[.slice (some ⟨b, off, none⟩) n cap] w1 fun e w' => e = .returned (.int .i64 B) ∧ Below w1.heap.size w1 w')
    (hD : ∀ w1, Below w.heap.size w w1 → Calls Tryd.prog 13 #[.slice (some ⟨b, off + k, none⟩) (n - k) (cap - k)] w1 fun e w' => e = .returned (.tuple #[.int .i64 R, .int .i64 K]) ∧ Below w1.heap.size w1 w') :
    Calls Tryd.prog 3 #[.slice (some ⟨b, off, none⟩) n cap, .int .i64 k] w (TrueBelow2 w) := by
  have HC := Lib.hid hC
  have HR := Lib.hid hR
  have HO := Lib.hid hO
  have HE := Lib.hid hE
  have HD := Lib.hid hD
  clear hC hR hO hE hD
  rcases h1 with ⟨h1, rfl⟩ | ⟨rfl, rfl⟩
  all_goals
    rcases h2 with ⟨rfl, h2, h3⟩ | ⟨rfl, rfl, rfl⟩
    all_goals
      go_enter Tryd.func3, Tryd.ntmps3
      go_wp2_with fail
      refine HO.out.mono ?_
      rintro e w1 ⟨rfl, hb⟩
      have HB1 := Lib.hid hb
      clear hb
      go_wp2_with fail
      refine (HC.out _ HB1.out).mono ?_
      rintro e w2 ⟨rfl, hb⟩
      have HB2 := Lib.hid (HB1.out.trans (hb.mono HB1.out.size))
      clear hb
      go_wp2_with fail
      refine (HR.out _ HB2.out).mono ?_
      rintro e w3 ⟨rfl, hb⟩
      have HB3 := Lib.hid (HB2.out.trans (hb.mono HB2.out.size))
      clear hb
      go_wp2_with fail
      refine (HD.out _ HB3.out).mono ?_
      rintro e w4 ⟨rfl, hb⟩
      have HB4 := Lib.hid (HB3.out.trans (hb.mono HB3.out.size))
      clear hb
      go_wp2_with (go_at_call 12; refine (alive_any _ (HE.out.below HB4.out)).mono ?_; rintro e w' ⟨rfl, hb⟩; have HB := Lib.hid hb; clear hb)
      go_ret
      exact ⟨rfl, HB4.out.trans (HB.out.mono HB4.out.size)⟩

/-- of a slice that is not nil -/
theorem runes_some (s : ByteArray) (b off n cap : Nat) (i : Int) (hn : n = s.size) (w : World) (hE : Env w) (hB : b < w.heap.size) (hc : n ≤ cap) (hm : cap ≤ 9223372036854775807)
    (hp : ∀ j, j < s.size → w.cell? ⟨b, off + j, none⟩ = some (.int .u8 (s.get! j).toNat)) :
    Calls Tryd.prog 3 #[.slice (some ⟨b, off, none⟩) n cap, .int .i64 i] w (TrueBelow2 w) := by
  have hC : ∀ w1, Below w.heap.size w w1 → Calls Tryd.prog 10 #[.slice (some ⟨b, off, none⟩) n cap] w1 fun e w' => e = .returned (.tuple #[.int .i64 (badAt s : Nat), .int .i64 (errAt s)]) ∧ Below w1.heap.size w1 w' := fun w1 hb =>
    check_some s b off cap n hn w1 (hE.below hb).1 (hE.below hb).2 hc hm (cells_below hb hB hp)
  have hR : ∀ w1, Below w.heap.size w w1 → Calls Tryd.prog 11 #[.slice (some ⟨b, off, none⟩) n cap] w1 fun e w' => e = .returned (.int .i64 (badAt s : Nat)) ∧ Below w1.heap.size w1 w' := fun w1 hb =>
    rcheck_some s b off cap n hn w1 (Nat.lt_of_lt_of_le hB hb.size) hc hm (cells_below hb hB hp)
  by_cases h : i < 0 ∨ (n : Int) ≤ i
  · exact runes_out _ n cap i s hn w hE h (by omega) hC hR
  · obtain ⟨k, rfl⟩ : ∃ k : Nat, i = (k : Int) := ⟨i.toNat, by omega⟩
    have hk : k < n := by omega
    have hk' : k < s.size := by omega
    have hw := width_le s k hk'
    have h1 : (((badAt s : Int) == (n : Int)) = false ∧ errAt s = 4) ∨ (badAt s = n ∧ errAt s = 0) := by
      rcases err_cases s with ⟨h1, h2⟩ | ⟨h1, h2⟩
      · exact Or.inl ⟨by rw [beq_eq_false_iff_ne]; omega, h2⟩
      · exact Or.inr ⟨by omega, h2⟩
    have hO := rune_in s b off cap k n w hn hE.1 hk hc hm hp
    cases hg : goodD (Utf8.decode s k) with
    | true =>
      have e : runeG s k = (((Utf8.decode s k).1 : Int), ((Utf8.decode s k).2 : Int), 0) := by simp [runeG, hg]
      rw [e] at hO
      exact runes_core b off n cap k (badAt s) (errAt s) (Utf8.decode s k).1 (Utf8.decode s k).2 0 w hE hk hc hm h1 (Or.inl ⟨rfl, hw.1, hw.2.2⟩) hO hC hR
        (fun w1 hb => rr_good s k b off (n - k) (off + k) (cap - k) _ _ hk' (by omega) (by omega) (by omega) rfl w1 (cells_below hb hB hp) rfl hg)
    | false =>
      have e : runeG s k = (0, 0, 4) := by simp [runeG, hg]
      rw [e] at hO
      exact runes_core b off n cap k (badAt s) (errAt s) 0 0 4 w hE hk hc hm h1 (Or.inr ⟨rfl, rfl, rfl⟩) hO hC hR
        (fun w1 hb => rr_bad s k b off (n - k) (off + k) (cap - k) _ _ hk' (by omega) (by omega) (by omega) rfl w1 (cells_below hb hB hp) rfl hg)

/-- of a slice of no byte, whatever its address -/
theorem runes_zero (p : Option Addr) (cap : Nat) (i : Int) (w : World) (hE : Env w) : Calls Tryd.prog 3 #[.slice p 0 cap, .int .i64 i] w (TrueBelow2 w) :=
  runes_out p 0 cap i ByteArray.empty rfl w hE (by omega) (by omega)
    (fun w1 hb => check_zero p cap w1 (hE.below hb).1 (hE.below hb).2) (fun w1 _ => rcheck_zero p cap w1)

theorem runes_any (s : ByteArray) (p : Option Addr) (n cap : Nat) (i : Int) (w : World) (hE : Env w) (h : Byt w p n cap s) : Calls Tryd.prog 3 #[.slice p n cap, .int .i64 i] w (TrueBelow2 w) := by
  obtain ⟨hn, hc, hm, h | ⟨b, off, rfl, hB, hp⟩⟩ := h
  · subst h
    exact runes_zero p cap i w hE
  · exact runes_some s b off n cap i hn w hE hB hc hm hp
end Go.Proofs.YthlofckaljkhhaaDoor
