/- The plain laws of 'badAt': ahead of the place all is right; at it nothing begins; right ones ahead shift it. -/
import Derived.Test.YthlofckaljkhhaaDoorPut2
namespace Go.Proofs.YthlofckaljkhhaaDoor
open Go.RowKit Go.Lib

theorem badFrom_fuel (s : ByteArray) : ∀ (g g' k : Nat), s.size - k ≤ g → s.size - k ≤ g' → badFrom s g k = badFrom s g' k
  | 0, 0, k, _, _ => rfl
  | 0, g' + 1, k, h, _ => by
    have : ¬ k < s.size := by omega
    simp [badFrom, this]
  | g + 1, 0, k, _, h => by
    have : ¬ k < s.size := by omega
    simp [badFrom, this]
  | g + 1, g' + 1, k, h, h' => by
    unfold badFrom
    split
    · rename_i hk
      have := width_le s k hk
      rw [badFrom_fuel s g g' _ (by omega) (by omega)]
    · rfl

/-- the place, from k on -/
def badOn (s : ByteArray) (k : Nat) : Nat := badFrom s (s.size - k) k
theorem badAt_on (s : ByteArray) : badAt s = badOn s 0 := rfl

theorem badOn_good (s : ByteArray) (k : Nat) (hk : k < s.size) (hg : goodD (Utf8.decode s k) = true) : badOn s k = badOn s (k + (Utf8.decode s k).2) := by
  have hw := width_le s k hk
  unfold badOn
  rw [badFrom_fuel s (s.size - k) ((s.size - k - 1) + 1) k (by omega) (by omega)]
  rw [badFrom, if_pos hk, if_pos hg]
  exact badFrom_fuel s _ _ _ (by omega) (by omega)
theorem badOn_bad (s : ByteArray) (k : Nat) (hk : k < s.size) (hg : goodD (Utf8.decode s k) = false) : badOn s k = k := by
  unfold badOn
  rw [badFrom_fuel s (s.size - k) ((s.size - k - 1) + 1) k (by omega) (by omega)]
  rw [badFrom, if_pos hk, hg]
  simp
theorem badOn_end (s : ByteArray) (k : Nat) (hk : ¬ k < s.size) : badOn s k = k := by
  unfold badOn
  have : s.size - k = 0 := by omega
  rw [this]
  rfl

theorem badOn_ge (s : ByteArray) : ∀ (m k : Nat), s.size - k ≤ m → k ≤ badOn s k
  | 0, k, h => by rw [badOn_end s k (by omega)]; exact Nat.le_refl _
  | m + 1, k, h => by
    by_cases hk : k < s.size
    · cases hg : goodD (Utf8.decode s k) with
      | true =>
        have hw := width_le s k hk
        rw [badOn_good s k hk hg]
        have := badOn_ge s m (k + (Utf8.decode s k).2) (by omega)
        omega
      | false => rw [badOn_bad s k hk hg]; exact Nat.le_refl _
    · rw [badOn_end s k hk]; exact Nat.le_refl _

/-- AT THE PLACE NO CHARACTER BEGINS. -/
theorem badOn_is (s : ByteArray) : ∀ (m k : Nat), s.size - k ≤ m → badOn s k < s.size → goodD (Utf8.decode s (badOn s k)) = false
  | 0, k, h, hb => by rw [badOn_end s k (by omega)] at hb; omega
  | m + 1, k, h, hb => by
    by_cases hk : k < s.size
    · cases hg : goodD (Utf8.decode s k) with
      | true =>
        have hw := width_le s k hk
        have e := badOn_good s k hk hg
        rw [e] at hb ⊢
        exact badOn_is s m _ (by omega) hb
      | false => rw [badOn_bad s k hk hg]; exact hg
    · rw [badOn_end s k hk] at hb; omega
theorem badAt_is (s : ByteArray) (h : badAt s < s.size) : goodD (Utf8.decode s (badAt s)) = false := badOn_is s s.size 0 (by omega) h

theorem good_not_bad : goodD (65533, 1) = false := by decide

/-- A good character, its bytes alone: whatever stands behind it. -/
theorem decodeN_cut (n n' b0 b1 b2 b3 c0 c1 c2 c3 : Nat) (hb : b0 < 256) (hg : goodD (decodeN n b0 b1 b2 b3) = true) (hk : (decodeN n b0 b1 b2 b3).2 ≤ n') (_hn : n' ≤ n)
    (h0 : c0 = b0) (h1 : 1 < n' → c1 = b1) (h2 : 2 < n' → c2 = b2) (h3 : 3 < n' → c3 = b3) : decodeN n' c0 c1 c2 c3 = decodeN n b0 b1 b2 b3 := by
  subst h0
  have hr : c0 < 128 ∨ ((128 ≤ c0 ∧ c0 < 192) ∨ 248 ≤ c0) ∨ (192 ≤ c0 ∧ c0 < 224) ∨ (224 ≤ c0 ∧ c0 < 240) ∨ (240 ≤ c0 ∧ c0 < 248) := by omega
  rcases hr with h | h | ⟨h, h'⟩ | ⟨h, h'⟩ | ⟨h, h'⟩
  · rw [dec1 _ _ _ _ _ h, dec1 _ _ _ _ _ h]
  · rw [dec_out _ _ _ _ _ h hb, good_not_bad] at hg
    cases hg
  · rw [dec2 n c0 b1 b2 b3 h h'] at hg hk ⊢
    split at hg
    · rename_i hc
      rw [if_pos hc] at hk ⊢
      simp at hk
      rw [dec2 n' c0 c1 c2 c3 h h', h1 (by omega), if_pos ⟨by omega, hc.2⟩]
    · rw [good_not_bad] at hg; cases hg
  · rw [dec3 n c0 b1 b2 b3 h h'] at hg hk ⊢
    split at hg
    · rename_i hc
      rw [if_pos hc] at hk ⊢
      simp at hk
      rw [dec3 n' c0 c1 c2 c3 h h', h1 (by omega), h2 (by omega), if_pos ⟨⟨by omega, hc.1.2⟩, ⟨by omega, hc.2.1.2⟩, hc.2.2⟩]
    · rw [good_not_bad] at hg; cases hg
  · rw [dec4 n c0 b1 b2 b3 h h'] at hg hk ⊢
    split at hg
    · rename_i hc
      rw [if_pos hc] at hk ⊢
      simp at hk
      rw [dec4 n' c0 c1 c2 c3 h h', h1 (by omega), h2 (by omega), h3 (by omega), if_pos ⟨⟨by omega, hc.1.2⟩, ⟨by omega, hc.2.1.2⟩, ⟨by omega, hc.2.2.1.2⟩, hc.2.2.2⟩]
    · rw [good_not_bad] at hg; cases hg

theorem decode_cut (s t : ByteArray) (k : Nat) (hts : t.size ≤ s.size) (hget : ∀ j, j < t.size → t.get! j = s.get! j) (hk : k < t.size)
    (hg : goodD (Utf8.decode s k) = true) (hw : k + (Utf8.decode s k).2 ≤ t.size) : Utf8.decode t k = Utf8.decode s k := by
  rw [decode_at] at hg hw ⊢
  rw [decode_at s]
  refine decodeN_cut _ _ _ _ _ _ _ _ _ _ (s.get! k).toNat_lt hg (by omega) (by omega) (by rw [hget k hk]) (fun h => by rw [hget _ (by omega)]) (fun h => by rw [hget _ (by omega)]) (fun h => by rw [hget _ (by omega)])

/-- AHEAD OF THE PLACE ALL IS RIGHT. -/
theorem badOn_cut (s t : ByteArray) (hget : ∀ j, j < t.size → t.get! j = s.get! j) : ∀ (m k : Nat), s.size - k ≤ m → k ≤ s.size → badOn s k = t.size → badOn t k = t.size
  | 0, k, h, h2, hb => by
    have h1 : k = s.size := by omega
    rw [badOn_end s k (by omega)] at hb
    rw [badOn_end t k (by omega)]
    exact hb
  | m + 1, k, h, h2, hb => by
    have hge := badOn_ge s _ k (Nat.le_refl _)
    by_cases hkt : k < t.size
    · by_cases hk : k < s.size
      · cases hg : goodD (Utf8.decode s k) with
        | true =>
          have hw := width_le s k hk
          have e := badOn_good s k hk hg
          rw [e] at hb
          have hge2 := badOn_ge s _ (k + (Utf8.decode s k).2) (Nat.le_refl _)
          have hle : t.size ≤ s.size := by
            have := badFrom_le s (s.size - (k + (Utf8.decode s k).2)) (k + (Utf8.decode s k).2) (by omega)
            unfold badOn at hb
            omega
          have ed := decode_cut s t k hle hget hkt hg (by omega)
          rw [badOn_good t k hkt (by rw [ed]; exact hg), ed]
          exact badOn_cut s t hget m _ (by omega) (by omega) hb
        | false => rw [badOn_bad s k hk hg] at hb; omega
      · rw [badOn_end s k hk] at hb; omega
    · rw [badOn_end t k hkt]; omega

theorem badAt_cut (s t : ByteArray) (ht : t.size = badAt s) (hget : ∀ j, j < t.size → t.get! j = s.get! j) : badAt t = t.size :=
  badOn_cut s t hget s.size 0 (by omega) (Nat.zero_le _) ht.symm

/-- WHAT STANDS BEHIND m BYTES. -/
theorem badOn_shift (s t : ByteArray) (n : Nat) (hsz : t.size = n + s.size) (hget : ∀ j, j < s.size → t.get! (n + j) = s.get! j) : ∀ (m k : Nat), s.size - k ≤ m → k ≤ s.size → badOn t (n + k) = n + badOn s k
  | 0, k, h, h2 => by rw [badOn_end s k (by omega), badOn_end t (n + k) (by omega)]
  | m + 1, k, h, h2 => by
    by_cases hk : k < s.size
    · have hd : goodD (Utf8.decode t (n + k)) = goodD (Utf8.decode s k) ∧ (goodD (Utf8.decode s k) = true → Utf8.decode t (n + k) = Utf8.decode s k) := by
        have g0 : t.get! (n + k) = s.get! k := hget k hk
        have gj : ∀ j, k + j < s.size → t.get! (n + k + j) = s.get! (k + j) := fun j hj => by rw [Nat.add_assoc]; exact hget (k + j) hj
        have e1 : t.size - (n + k) = s.size - k := by omega
        cases hg : goodD (Utf8.decode s k) with
        | true =>
          have hx : Utf8.decode t (n + k) = Utf8.decode s k := by
            rw [decode_at] at hg
            rw [decode_at, decode_at s, e1, g0]
            exact decodeN_cut _ _ _ _ _ _ _ _ _ _ (s.get! k).toNat_lt hg (by have := width_le s k hk; rw [decode_at] at this; omega) (Nat.le_refl _) rfl (fun h => by rw [gj 1 (by omega)]) (fun h => by rw [gj 2 (by omega)]) (fun h => by rw [gj 3 (by omega)])
          exact ⟨by rw [hx]; exact hg, fun _ => hx⟩
        | false =>
          refine ⟨?_, fun h => by cases h⟩
          cases hg2 : goodD (Utf8.decode t (n + k)) with
          | false => rfl
          | true =>
            exfalso
            have hx : Utf8.decode s k = Utf8.decode t (n + k) := by
              rw [decode_at] at hg2
              rw [decode_at, decode_at t, e1, g0]
              rw [e1, g0] at hg2
              exact decodeN_cut _ _ _ _ _ _ _ _ _ _ (s.get! k).toNat_lt hg2 (by have := width_le t (n + k) (by omega); rw [decode_at, e1, g0] at this; omega) (Nat.le_refl _) rfl (fun h => by rw [gj 1 (by omega)]) (fun h => by rw [gj 2 (by omega)]) (fun h => by rw [gj 3 (by omega)])
            rw [hx, hg2] at hg
            cases hg
      cases hg : goodD (Utf8.decode s k) with
      | true =>
        have hw := width_le s k hk
        rw [badOn_good s k hk hg, badOn_good t (n + k) (by omega) (by rw [hd.1]; exact hg), hd.2 hg, Nat.add_assoc]
        exact badOn_shift s t n hsz hget m _ (by omega) (by omega)
      | false => rw [badOn_bad s k hk hg, badOn_bad t (n + k) (by omega) (by rw [hd.1]; exact hg)]
    · rw [badOn_end s k hk, badOn_end t (n + k) (by omega)]

/-- a character's bytes at place k: it is passed -/
theorem badOn_put {c : Int} (h : fineB c = true) (t : ByteArray) (k : Nat) (hk : k + (putZ c).length ≤ t.size)
    (hget : ∀ j, j < (putZ c).length → ((t.get! (k + j)).toNat : Int) = (putZ c).getD j 0) : badOn t k = badOn t (k + (putZ c).length) := by
  have hp := putZ_pos c
  have e := decode_put h t k hk hget
  rw [badOn_good t k (by omega) (by rw [e]; exact good_put h), e]
end Go.Proofs.YthlofckaljkhhaaDoor
