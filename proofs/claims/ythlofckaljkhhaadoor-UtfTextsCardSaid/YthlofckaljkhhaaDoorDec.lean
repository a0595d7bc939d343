/- The plain law: the reference's Rune answers as the decoder does. -/
import Derived.Test.YthlofckaljkhhaaDoorRr
namespace Go.Proofs.YthlofckaljkhhaaDoor
open Go.RowKit Go.Lib

theorem dec1 (n b0 b1 b2 b3 : Nat) (h : b0 < 128) : decodeN n b0 b1 b2 b3 = (b0, 1) := by
  unfold decodeN; rw [if_pos h]
theorem dec_out (n b0 b1 b2 b3 : Nat) (h : (128 ≤ b0 ∧ b0 < 192) ∨ 248 ≤ b0) (h' : b0 < 256) : decodeN n b0 b1 b2 b3 = (65533, 1) := by
  unfold decodeN
  repeat' split
  all_goals first | (exfalso; omega) | rfl
theorem dec2 (n b0 b1 b2 b3 : Nat) (h : 192 ≤ b0) (h' : b0 < 224) : decodeN n b0 b1 b2 b3 =
    if 1 < n ∧ b1 / 64 = 2 ∧ 128 ≤ (b0 - 192) * 64 + b1 % 64 then ((b0 - 192) * 64 + b1 % 64, 2) else (65533, 1) := by
  have e : b0 % 32 = b0 - 192 := by omega
  unfold decodeN
  rw [e]
  repeat' split
  all_goals first | (exfalso; omega) | rfl
theorem dec3 (n b0 b1 b2 b3 : Nat) (h : 224 ≤ b0) (h' : b0 < 240) : decodeN n b0 b1 b2 b3 =
    if (1 < n ∧ b1 / 64 = 2) ∧ (2 < n ∧ b2 / 64 = 2) ∧ 2048 ≤ (b0 - 224) * 4096 + b1 % 64 * 64 + b2 % 64 ∧ ((b0 - 224) * 4096 + b1 % 64 * 64 + b2 % 64 < 55296 ∨ 57344 ≤ (b0 - 224) * 4096 + b1 % 64 * 64 + b2 % 64)
    then ((b0 - 224) * 4096 + b1 % 64 * 64 + b2 % 64, 3) else (65533, 1) := by
  have e : b0 % 16 = b0 - 224 := by omega
  unfold decodeN
  rw [e]
  repeat' split
  all_goals first | (exfalso; omega) | rfl
theorem dec4 (n b0 b1 b2 b3 : Nat) (h : 240 ≤ b0) (h' : b0 < 248) : decodeN n b0 b1 b2 b3 =
    if (1 < n ∧ b1 / 64 = 2) ∧ (2 < n ∧ b2 / 64 = 2) ∧ (3 < n ∧ b3 / 64 = 2) ∧ 65536 ≤ (b0 - 240) * 262144 + b1 % 64 * 4096 + b2 % 64 * 64 + b3 % 64 ∧ (b0 - 240) * 262144 + b1 % 64 * 4096 + b2 % 64 * 64 + b3 % 64 ≤ 1114111
    then ((b0 - 240) * 262144 + b1 % 64 * 4096 + b2 % 64 * 64 + b3 % 64, 4) else (65533, 1) := by
  have e : b0 % 8 = b0 - 240 := by omega
  unfold decodeN
  rw [e]
  repeat' split
  all_goals first | (exfalso; omega) | rfl

def refD (d : Nat × Nat) : Int × Int := if goodD d then ((d.1 : Int), (d.2 : Int)) else (0, 0)
theorem refD_bad : refD (65533, 1) = (0, 0) := by decide
theorem refD_no {a k : Nat} (h : fineB (a : Int) = false) : refD (a, k) = (0, 0) := by
  have : goodD (a, k) = false := by simp [goodD, h]
  simp [refD, this]
theorem refD_yes {a k : Nat} (h : fineB (a : Int) = true) (hk : 2 ≤ k ∨ a ≠ 65533) : refD (a, k) = ((a : Int), (k : Int)) := by
  have : goodD (a, k) = true := by
    simp only [goodD, h, Bool.and_true, Bool.not_eq_true', Bool.and_eq_false_iff, beq_eq_false_iff_ne, decide_eq_false_iff_not]
    omega
  simp [refD, this]

theorem putZ_len (c : Int) : (putZ c).length = if c < 128 then 1 else if c < 2048 then 2 else if c < 65536 then 3 else 4 := by
  unfold putZ
  repeat' split
  all_goals rfl

theorem fineB_top {c : Int} (h : fineB c = true) : 9 ≤ c ∧ c ≤ 1114111 := by
  simp [fineB] at h; omega

/-- of whatever bytes -/
theorem rr_any (g : Nat → Nat) (hg : ∀ j, g j < 256) (b off n cap : Nat) (w : World) (hn : 0 < n) (hc : n ≤ cap) (hm : cap ≤ 9223372036854775807)
    (hp : ∀ j, j < n → w.cell? ⟨b, off + j, none⟩ = some (.int .u8 (g j : Nat))) :
    Calls Tryd.prog 13 #[.slice (some ⟨b, off, none⟩) n cap] w (RrPost (refD (decodeN n (g 0) (g 1) (g 2) (g 3))).1 (refD (decodeN n (g 0) (g 1) (g 2) (g 3))).2 w) := by
  have hc0 : w.cell? ⟨b, off, none⟩ = some (.int .u8 (g 0 : Nat)) := hp 0 hn
  have g0 := hg 0
  have g1 := hg 1
  have g2 := hg 2
  have g3 := hg 3
  have hcells : ∀ m, m < n → ∀ j, j < m → w.cell? ⟨b, off + 1 + j, none⟩ = some (.int .u8 (g (j + 1) : Nat)) := fun m hmn j hj => by
    rw [show off + 1 + j = off + (j + 1) from by omega]; exact hp (j + 1) (by omega)
  have hr : g 0 < 128 ∨ ((128 ≤ g 0 ∧ g 0 < 192) ∨ 248 ≤ g 0) ∨ (192 ≤ g 0 ∧ g 0 < 224) ∨ (224 ≤ g 0 ∧ g 0 < 240) ∨ (240 ≤ g 0 ∧ g 0 < 248) := by omega
  rcases hr with h | h | ⟨h, h'⟩ | ⟨h, h'⟩ | ⟨h, h'⟩
  · -- one byte
    rw [dec1 _ _ _ _ _ h]
    have hl : ∀ (o c : Nat), Calls Tryd.prog 29 #[.slice (some ⟨b, o, none⟩) 0 c] w fun e w' => e = .returned (.int .i64 0) ∧ w = w' := fun o c =>
      low_yes g b o 0 c (by omega) w (fun j hj => absurd hj (by omega)) hg (fun j hj => absurd hj (by omega)) 0 rfl
    have e0 : pw (g 0 : Int) 0 + 0 = (g 0 : Int) := by simp [pw]
    cases hf : fineB (g 0 : Int) with
    | false =>
      rw [refD_no hf]
      exact rr1_notfine b off n cap (g 0) w hn (by omega) hc hm hc0 (Nat.zero_le _) h 0 (by omega) (by omega) hl (by rw [e0]; exact hf)
    | true =>
      rw [refD_yes hf (by omega)]
      have hq : (putZ (pw (g 0 : Int) 0 + 0)).length = 1 := by rw [e0, putZ_len, if_pos (by omega)]
      have := rr1_good b off n cap (g 0) w hn (by omega) hc hm hc0 (Nat.zero_le _) h 0 (by omega) (by omega) hl (by rw [e0]; exact hf) (by rw [e0]; omega) hq
      rw [e0] at this
      exact this
  · rw [dec_out _ _ _ _ _ h g0, refD_bad]
    exact rr_out b off n cap (g 0) w hn (by omega) hc0 h g0
  · -- two bytes
    rw [dec2 _ _ _ _ _ h h']
    by_cases h3 : n < 2
    · rw [if_neg (by omega), refD_bad]
      exact rr2_short b off n cap (g 0) w hn (by omega) hc hm hc0 h h' h3
    have h3 : 2 ≤ n := by omega
    have hcl := hcells 1 (by omega)
    by_cases hk : 128 ≤ g 1 ∧ g 1 ≤ 191
    · have hl := low_yes (fun j => g (j + 1)) b (off + 1) 1 (cap - 1) (by omega) w hcl (fun j => hg _) (fun j hj => by
        have : j = 0 := by omega
        rw [this]
        exact hk) _ rfl
      have eL : lowG (fun j => g (j + 1)) 1 = (g 1 : Int) - 128 := by simp [lowG]
      rw [eL] at hl
      have e0 : pw ((g 0 : Int) - 192) 1 + ((g 1 : Int) - 128) = (((g 0 - 192) * 64 + g 1 % 64 : Nat) : Int) := by simp only [pw]; omega
      obtain ⟨c, hcc⟩ : ∃ c : Nat, (g 0 - 192) * 64 + g 1 % 64 = c := ⟨_, rfl⟩
      rw [hcc] at e0 ⊢
      cases hf : fineB (c : Int) with
      | false =>
        have hx : refD (if 1 < n ∧ g 1 / 64 = 2 ∧ 128 ≤ c then (c, 2) else (65533, 1)) = (0, 0) := by
          split
          · exact refD_no hf
          · exact refD_bad
        rw [hx]
        exact rr2_notfine b off n cap (g 0) w hn (by omega) hc hm hc0 h h' _ (by omega) (by omega) h3 hl (by rw [e0]; exact hf)
      | true =>
        have ht := fineB_top hf
        by_cases hs : 128 ≤ c
        · rw [if_pos ⟨by omega, by omega, hs⟩, refD_yes hf (by omega)]
          have hq : (putZ (pw ((g 0 : Int) - 192) 1 + ((g 1 : Int) - 128))).length = 2 := by rw [e0, putZ_len, if_neg (by omega), if_pos (by omega)]
          have := rr2_good b off n cap (g 0) w hn (by omega) hc hm hc0 h h' _ (by omega) (by omega) h3 hl (by rw [e0]; exact hf) (by rw [e0]; omega) hq
          rw [e0] at this
          exact this
        · rw [if_neg (by omega), refD_bad]
          exact rr2_wide b off n cap (g 0) w hn (by omega) hc hm hc0 h h' _ (by omega) (by omega) h3 hl (by rw [e0]; exact hf) (by rw [e0]; omega) 1 (by rw [e0, putZ_len, if_pos (by omega)]) (by decide)
    · rw [if_neg (by omega), refD_bad]
      exact rr2_low b off n cap (g 0) w hn (by omega) hc hm hc0 h h' h3 (low_no (fun j => g (j + 1)) b (off + 1) 1 (cap - 1) (by omega) w hcl (fun j => hg _) ⟨0, by omega, hk⟩)
  · -- three bytes
    rw [dec3 _ _ _ _ _ h h']
    by_cases h3 : n < 3
    · rw [if_neg (by omega), refD_bad]
      exact rr3_short b off n cap (g 0) w hn (by omega) hc hm hc0 h h' h3
    have h3 : 3 ≤ n := by omega
    have hcl := hcells 2 (by omega)
    by_cases hk : (128 ≤ g 1 ∧ g 1 ≤ 191) ∧ (128 ≤ g 2 ∧ g 2 ≤ 191)
    · have hl := low_yes (fun j => g (j + 1)) b (off + 1) 2 (cap - 1) (by omega) w hcl (fun j => hg _) (fun j hj => by
        have : j = 0 ∨ j = 1 := by omega
        rcases this with rfl | rfl
        · exact hk.1
        · exact hk.2) _ rfl
      have eL : lowG (fun j => g (j + 1)) 2 = 64 * ((g 1 : Int) - 128) + (g 2 : Int) - 128 := by simp [lowG]
      rw [eL] at hl
      have e0 : pw ((g 0 : Int) - 224) 2 + (64 * ((g 1 : Int) - 128) + (g 2 : Int) - 128) = (((g 0 - 224) * 4096 + g 1 % 64 * 64 + g 2 % 64 : Nat) : Int) := by simp only [pw]; omega
      obtain ⟨c, hcc⟩ : ∃ c : Nat, (g 0 - 224) * 4096 + g 1 % 64 * 64 + g 2 % 64 = c := ⟨_, rfl⟩
      rw [hcc] at e0 ⊢
      cases hf : fineB (c : Int) with
      | false =>
        have hx : refD (if (1 < n ∧ g 1 / 64 = 2) ∧ (2 < n ∧ g 2 / 64 = 2) ∧ 2048 ≤ c ∧ (c < 55296 ∨ 57344 ≤ c) then (c, 3) else (65533, 1)) = (0, 0) := by
          split
          · exact refD_no hf
          · exact refD_bad
        rw [hx]
        exact rr3_notfine b off n cap (g 0) w hn (by omega) hc hm hc0 h h' _ (by omega) (by omega) h3 hl (by rw [e0]; exact hf)
      | true =>
        have ht := fineB_top hf
        have hsur : c < 55296 ∨ 57344 ≤ c := by simp [fineB] at hf; omega
        by_cases hs : 2048 ≤ c
        · rw [if_pos ⟨⟨by omega, by omega⟩, ⟨by omega, by omega⟩, hs, hsur⟩, refD_yes hf (by omega)]
          have hq : (putZ (pw ((g 0 : Int) - 224) 2 + (64 * ((g 1 : Int) - 128) + (g 2 : Int) - 128))).length = 3 := by rw [e0, putZ_len, if_neg (by omega), if_neg (by omega), if_pos (by omega)]
          have := rr3_good b off n cap (g 0) w hn (by omega) hc hm hc0 h h' _ (by omega) (by omega) h3 hl (by rw [e0]; exact hf) (by rw [e0]; omega) hq
          rw [e0] at this
          exact this
        · rw [if_neg (by omega), refD_bad]
          have hw := rr3_wide b off n cap (g 0) w hn (by omega) hc hm hc0 h h' _ (by omega) (by omega) h3 hl (by rw [e0]; exact hf) (by rw [e0]; omega)
          by_cases h8 : c < 128
          · exact hw 1 (by rw [e0, putZ_len, if_pos (by omega)]) (by decide)
          · exact hw 2 (by rw [e0, putZ_len, if_neg (by omega), if_pos (by omega)]) (by decide)
    · rw [if_neg (by omega), refD_bad]
      refine rr3_low b off n cap (g 0) w hn (by omega) hc hm hc0 h h' h3 (low_no (fun j => g (j + 1)) b (off + 1) 2 (cap - 1) (by omega) w hcl (fun j => hg _) ?_)
      by_cases h5 : 128 ≤ g 1 ∧ g 1 ≤ 191
      · exact ⟨1, by omega, fun h6 => hk ⟨h5, h6⟩⟩
      · exact ⟨0, by omega, h5⟩
  · -- four bytes
    rw [dec4 _ _ _ _ _ h h']
    by_cases h3 : n < 4
    · rw [if_neg (by omega), refD_bad]
      exact rr4_short b off n cap (g 0) w hn (by omega) hc hm hc0 h h' h3
    have h3 : 4 ≤ n := by omega
    have hcl : ∀ j, j < 3 → w.cell? ⟨b, off + 1 + j, none⟩ = some (.int .u8 (g (j + 1) : Nat)) := hcells 3 (by omega)
    by_cases hk : (128 ≤ g 1 ∧ g 1 ≤ 191) ∧ (128 ≤ g 2 ∧ g 2 ≤ 191) ∧ (128 ≤ g 3 ∧ g 3 ≤ 191)
    · have hl := low_yes (fun j => g (j + 1)) b (off + 1) 3 (cap - 1) (by omega) w hcl (fun j => hg _) (fun j hj => by
        have : j = 0 ∨ j = 1 ∨ j = 2 := by omega
        rcases this with rfl | rfl | rfl
        · exact hk.1
        · exact hk.2.1
        · exact hk.2.2) _ rfl
      have eL : lowG (fun j => g (j + 1)) 3 = 64 * (64 * ((g 1 : Int) - 128) + (g 2 : Int) - 128) + (g 3 : Int) - 128 := by simp [lowG]
      rw [eL] at hl
      have e0 : pw ((g 0 : Int) - 240) 3 + (64 * (64 * ((g 1 : Int) - 128) + (g 2 : Int) - 128) + (g 3 : Int) - 128) = (((g 0 - 240) * 262144 + g 1 % 64 * 4096 + g 2 % 64 * 64 + g 3 % 64 : Nat) : Int) := by simp only [pw]; omega
      obtain ⟨c, hcc⟩ : ∃ c : Nat, (g 0 - 240) * 262144 + g 1 % 64 * 4096 + g 2 % 64 * 64 + g 3 % 64 = c := ⟨_, rfl⟩
      rw [hcc] at e0 ⊢
      cases hf : fineB (c : Int) with
      | false =>
        have hx : refD (if (1 < n ∧ g 1 / 64 = 2) ∧ (2 < n ∧ g 2 / 64 = 2) ∧ (3 < n ∧ g 3 / 64 = 2) ∧ 65536 ≤ c ∧ c ≤ 1114111 then (c, 4) else (65533, 1)) = (0, 0) := by
          split
          · exact refD_no hf
          · exact refD_bad
        rw [hx]
        exact rr4_notfine b off n cap (g 0) w hn (by omega) hc hm hc0 h h' _ (by omega) (by omega) h3 hl (by rw [e0]; exact hf)
      | true =>
        have ht := fineB_top hf
        by_cases hs : 65536 ≤ c
        · rw [if_pos ⟨⟨by omega, by omega⟩, ⟨by omega, by omega⟩, ⟨by omega, by omega⟩, hs, by omega⟩, refD_yes hf (by omega)]
          have hq : (putZ (pw ((g 0 : Int) - 240) 3 + (64 * (64 * ((g 1 : Int) - 128) + (g 2 : Int) - 128) + (g 3 : Int) - 128))).length = 4 := by rw [e0, putZ_len, if_neg (by omega), if_neg (by omega), if_neg (by omega)]
          have := rr4_good b off n cap (g 0) w hn (by omega) hc hm hc0 h h' _ (by omega) (by omega) h3 hl (by rw [e0]; exact hf) (by rw [e0]; omega) hq
          rw [e0] at this
          exact this
        · rw [if_neg (by omega), refD_bad]
          have hw := rr4_wide b off n cap (g 0) w hn (by omega) hc hm hc0 h h' _ (by omega) (by omega) h3 hl (by rw [e0]; exact hf) (by rw [e0]; omega)
          by_cases h8 : c < 128
          · exact hw 1 (by rw [e0, putZ_len, if_pos (by omega)]) (by decide)
          · by_cases h9 : c < 2048
            · exact hw 2 (by rw [e0, putZ_len, if_neg (by omega), if_pos (by omega)]) (by decide)
            · exact hw 3 (by rw [e0, putZ_len, if_neg (by omega), if_neg (by omega), if_pos (by omega)]) (by decide)
    · rw [if_neg (by omega), refD_bad]
      refine rr4_low b off n cap (g 0) w hn (by omega) hc hm hc0 h h' h3 (low_no (fun j => g (j + 1)) b (off + 1) 3 (cap - 1) (by omega) w hcl (fun j => hg _) ?_)
      by_cases h5 : 128 ≤ g 1 ∧ g 1 ≤ 191
      · by_cases h6 : 128 ≤ g 2 ∧ g 2 ≤ 191
        · exact ⟨2, by omega, fun h7 => hk ⟨h5, h6, h7⟩⟩
        · exact ⟨1, by omega, h6⟩
      · exact ⟨0, by omega, h5⟩
end Go.Proofs.YthlofckaljkhhaaDoor
