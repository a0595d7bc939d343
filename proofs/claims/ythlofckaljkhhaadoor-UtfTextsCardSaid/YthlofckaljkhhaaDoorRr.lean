/- The reference's Rune: by how many bytes the first one asks for. -/
import Derived.Test.YthlofckaljkhhaaDoorRef
namespace Go.Proofs.YthlofckaljkhhaaDoor
open Go.RowKit Go.Lib

def pw (t : Int) : Nat → Int
  | 0 => t
  | k + 1 => 64 * pw t k
theorem pw_bd (t : Int) (h0 : 0 ≤ t) (h1 : t ≤ 255) (k : Nat) (hk : k ≤ 3) : 0 ≤ pw t k ∧ pw t k ≤ 66846720 := by
  match k, hk with
  | 0, _ => simp [pw]; omega
  | 1, _ => simp [pw]; omega
  | 2, _ => simp [pw]; omega
  | 3, _ => simp [pw]; omega

def RrPost (a b : Int) (w : World) (e : Ending) (w' : World) : Prop := e = .returned (.tuple #[.int .i64 a, .int .i64 b]) ∧ Below w.heap.size w w'

theorem rput_len (c : Int) (h0 : 0 ≤ c) (h1 : c ≤ 1114111) (l : Nat) (hl : (putZ c).length = l) (w : World) :
    Calls Tryd.prog 26 #[.int .i64 c] w fun e w' => e = .returned (.slice (some ⟨w.heap.size, 0, none⟩) l l) ∧ Below w.heap.size w w' := by
  refine (rput_any c h0 h1 w).mono ?_
  rintro e w' ⟨rfl, rfl⟩
  exact ⟨by rw [hl], (Below.refl _ _).alloc (Nat.le_refl _) _⟩

theorem low_yes (g : Nat → Nat) (b off m cap : Nat) (hm : m ≤ 3) (w : World) (hp : ∀ j, j < m → w.cell? ⟨b, off + j, none⟩ = some (.int .u8 (g j : Nat))) (hg : ∀ j, g j < 256)
    (h : ∀ j, j < m → 128 ≤ g j ∧ g j ≤ 191) (L : Int) (hL : lowG g m = L) :
    Calls Tryd.prog 29 #[.slice (some ⟨b, off, none⟩) m cap] w fun e w' => e = .returned (.int .i64 L) ∧ w = w' :=
  (low_any g b off m cap hm w hp hg).mono fun _ _ ⟨h1, _, h3⟩ => ⟨by rw [← hL]; exact h1 h, h3⟩
theorem low_no (g : Nat → Nat) (b off m cap : Nat) (hm : m ≤ 3) (w : World) (hp : ∀ j, j < m → w.cell? ⟨b, off + j, none⟩ = some (.int .u8 (g j : Nat))) (hg : ∀ j, g j < 256)
    (h : ∃ j, j < m ∧ ¬ (128 ≤ g j ∧ g j ≤ 191)) :
    Calls Tryd.prog 29 #[.slice (some ⟨b, off, none⟩) m cap] w fun e w' => e = .returned (.int .i64 (-1)) ∧ w = w' :=
  (low_any g b off m cap hm w hp hg).mono fun _ _ ⟨_, h2, h3⟩ => ⟨h2 h, h3⟩

set_option maxRecDepth 100000 in
set_option maxHeartbeats 400000 in
theorem rr_empty (p : Option Addr) (cap : Nat) (w : World) : Calls Tryd.prog 13 #[.slice p 0 cap] w (RrPost 0 0 w) := by
  go_enter Tryd.func13, Tryd.ntmps13
  go_wp2
  go_ret2
  exact ⟨rfl, Below.refl _ _⟩

set_option maxRecDepth 100000 in
set_option maxHeartbeats 400000 in
theorem rr_out (b off n cap b0 : Nat) (w : World) (hn : 0 < n) (_hm : n ≤ 9223372036854775807) (hc : w.cell? ⟨b, off, none⟩ = some (.int .u8 (b0 : Nat))) (h : (128 ≤ b0 ∧ b0 < 192) ∨ 248 ≤ b0) (_h' : b0 < 256) :
    Calls Tryd.prog 13 #[.slice (some ⟨b, off, none⟩) n cap] w (RrPost 0 0 w) := by
  rcases h with ⟨h1, h2⟩ | h1
  all_goals
    go_enter Tryd.func13, Tryd.ntmps13
    go_wp2
    go_ret2
    exact ⟨rfl, Below.refl _ _⟩
set_option maxRecDepth 100000 in
set_option maxHeartbeats 400000 in
theorem rr1_notfine (b off n cap b0 : Nat) (w : World) (hn : 0 < n) (_hm : n ≤ 9223372036854775807) (_hcap : n ≤ cap) (_hcm : cap ≤ 9223372036854775807) (hc : w.cell? ⟨b, off, none⟩ = some (.int .u8 (b0 : Nat))) (h1 : 0 ≤ b0) (h2 : b0 < 128) (L : Int) (hL0 : 0 ≤ L) (hL1 : L < 262144)
    (hl : ∀ (o c : Nat), Calls Tryd.prog 29 #[.slice (some ⟨b, o, none⟩) 0 c] w fun e w' => e = .returned (.int .i64 L) ∧ w = w') (hf : fineB (pw ((b0 : Int)) 0 + L) = false) :
    Calls Tryd.prog 13 #[.slice (some ⟨b, off, none⟩) n cap] w (RrPost 0 0 w) := by
  have HL := Lib.hid hl
  clear hl
  have hpw := pw_bd ((b0 : Int)) (by omega) (by omega)
  have HP := Lib.hid hpw
  have hp3 := hpw 0 (by omega)
  clear hpw
  have HF := Lib.hid hf
  clear hf
  have hcc : cap = 1 ∨ 2 ≤ cap := by omega
  rcases hcc with rfl | hcc
  all_goals
    go_enter Tryd.func13, Tryd.ntmps13
    go_wp2_with (go_at_call 29; refine (HL.out _ _).mono ?_; rintro e w' ⟨rfl, rfl⟩)
    go_loop [6, 8] (fun t i => ∃ k : Nat, k ≤ 0 ∧ i = .int .i64 ((k : Int) + 1) ∧ t = .int .i64 (pw ((b0 : Int)) k)) (fun _ i => 1 - (RowKit.intOf i).toNat)
    case atStart => exact ⟨0, by omega, by first | rfl | simp, rfl⟩
    case round =>
      obtain ⟨k, hk, rfl, rfl⟩ := hrel
      have hb := HP.out k (by omega)
      by_cases hlt : k < 0
      · exact absurd hlt (by omega)
      · obtain rfl : k = 0 := by omega
        clear hlt hk hb
        go_wp2_with (go_at_call 21; refine (rfine_no HF.out _).mono ?_; rintro e w' ⟨rfl, rfl⟩)
        go_ret2
        exact ⟨rfl, Below.refl _ _⟩

set_option maxRecDepth 100000 in
set_option maxHeartbeats 400000 in
theorem rr1_wide (b off n cap b0 : Nat) (w : World) (hn : 0 < n) (_hm : n ≤ 9223372036854775807) (_hcap : n ≤ cap) (_hcm : cap ≤ 9223372036854775807) (hc : w.cell? ⟨b, off, none⟩ = some (.int .u8 (b0 : Nat))) (h1 : 0 ≤ b0) (h2 : b0 < 128) (L : Int) (hL0 : 0 ≤ L) (hL1 : L < 262144)
    (hl : ∀ (o c : Nat), Calls Tryd.prog 29 #[.slice (some ⟨b, o, none⟩) 0 c] w fun e w' => e = .returned (.int .i64 L) ∧ w = w') (hf : fineB (pw ((b0 : Int)) 0 + L) = true) (hb2 : pw ((b0 : Int)) 0 + L ≤ 1114111) (l : Nat) (hq : (putZ (pw ((b0 : Int)) 0 + L)).length = l) (hne : ((l : Int) != 1) = true) :
    Calls Tryd.prog 13 #[.slice (some ⟨b, off, none⟩) n cap] w (RrPost 0 0 w) := by
  have HL := Lib.hid hl
  clear hl
  have hpw := pw_bd ((b0 : Int)) (by omega) (by omega)
  have HP := Lib.hid hpw
  have hp3 := hpw 0 (by omega)
  clear hpw
  have HF := Lib.hid hf
  clear hf
  have HQ := Lib.hid hq
  clear hq
  have hcc : cap = 1 ∨ 2 ≤ cap := by omega
  rcases hcc with rfl | hcc
  all_goals
    go_enter Tryd.func13, Tryd.ntmps13
    go_wp2_with (go_at_call 29; refine (HL.out _ _).mono ?_; rintro e w' ⟨rfl, rfl⟩)
    go_loop [6, 8] (fun t i => ∃ k : Nat, k ≤ 0 ∧ i = .int .i64 ((k : Int) + 1) ∧ t = .int .i64 (pw ((b0 : Int)) k)) (fun _ i => 1 - (RowKit.intOf i).toNat)
    case atStart => exact ⟨0, by omega, by first | rfl | simp, rfl⟩
    case round =>
      obtain ⟨k, hk, rfl, rfl⟩ := hrel
      have hb := HP.out k (by omega)
      by_cases hlt : k < 0
      · exact absurd hlt (by omega)
      · obtain rfl : k = 0 := by omega
        clear hlt hk hb
        go_wp2_with (first | (go_at_call 21; refine (rfine_yes HF.out _).mono ?_; rintro e w' ⟨rfl, rfl⟩) | (go_at_call 26; refine (rput_len _ (by omega) (by omega) l HQ.out _).mono ?_; rintro e w' ⟨rfl, hb⟩; have HB := Lib.hid hb; clear hb))
        go_ret2
        exact ⟨rfl, HB.out⟩

set_option maxRecDepth 100000 in
set_option maxHeartbeats 400000 in
theorem rr1_good (b off n cap b0 : Nat) (w : World) (hn : 0 < n) (_hm : n ≤ 9223372036854775807) (_hcap : n ≤ cap) (_hcm : cap ≤ 9223372036854775807) (hc : w.cell? ⟨b, off, none⟩ = some (.int .u8 (b0 : Nat))) (h1 : 0 ≤ b0) (h2 : b0 < 128) (L : Int) (hL0 : 0 ≤ L) (hL1 : L < 262144)
    (hl : ∀ (o c : Nat), Calls Tryd.prog 29 #[.slice (some ⟨b, o, none⟩) 0 c] w fun e w' => e = .returned (.int .i64 L) ∧ w = w') (hf : fineB (pw ((b0 : Int)) 0 + L) = true) (hb2 : pw ((b0 : Int)) 0 + L ≤ 1114111) (hq : (putZ (pw ((b0 : Int)) 0 + L)).length = 1) :
    Calls Tryd.prog 13 #[.slice (some ⟨b, off, none⟩) n cap] w (RrPost (pw ((b0 : Int)) 0 + L) 1 w) := by
  have HL := Lib.hid hl
  clear hl
  have hpw := pw_bd ((b0 : Int)) (by omega) (by omega)
  have HP := Lib.hid hpw
  have hp3 := hpw 0 (by omega)
  clear hpw
  have HF := Lib.hid hf
  clear hf
  have HQ := Lib.hid hq
  clear hq
  have hcc : cap = 1 ∨ 2 ≤ cap := by omega
  rcases hcc with rfl | hcc
  all_goals
    go_enter Tryd.func13, Tryd.ntmps13
    go_wp2_with (go_at_call 29; refine (HL.out _ _).mono ?_; rintro e w' ⟨rfl, rfl⟩)
    go_loop [6, 8] (fun t i => ∃ k : Nat, k ≤ 0 ∧ i = .int .i64 ((k : Int) + 1) ∧ t = .int .i64 (pw ((b0 : Int)) k)) (fun _ i => 1 - (RowKit.intOf i).toNat)
    case atStart => exact ⟨0, by omega, by first | rfl | simp, rfl⟩
    case round =>
      obtain ⟨k, hk, rfl, rfl⟩ := hrel
      have hb := HP.out k (by omega)
      by_cases hlt : k < 0
      · exact absurd hlt (by omega)
      · obtain rfl : k = 0 := by omega
        clear hlt hk hb
        go_wp2_with (first | (go_at_call 21; refine (rfine_yes HF.out _).mono ?_; rintro e w' ⟨rfl, rfl⟩) | (go_at_call 26; refine (rput_len _ (by omega) (by omega) 1 HQ.out _).mono ?_; rintro e w' ⟨rfl, hb⟩; have HB := Lib.hid hb; clear hb))
        go_ret2
        exact ⟨rfl, HB.out⟩

set_option maxRecDepth 100000 in
set_option maxHeartbeats 400000 in
theorem rr2_short (b off n cap b0 : Nat) (w : World) (hn : 0 < n) (_hm : n ≤ 9223372036854775807) (_hcap : n ≤ cap) (_hcm : cap ≤ 9223372036854775807) (hc : w.cell? ⟨b, off, none⟩ = some (.int .u8 (b0 : Nat))) (h1 : 192 ≤ b0) (h2 : b0 < 224) (h3 : n < 2) :
    Calls Tryd.prog 13 #[.slice (some ⟨b, off, none⟩) n cap] w (RrPost 0 0 w) := by
  go_enter Tryd.func13, Tryd.ntmps13
  go_wp2
  go_ret2
  exact ⟨rfl, Below.refl _ _⟩

set_option maxRecDepth 100000 in
set_option maxHeartbeats 400000 in
theorem rr2_low (b off n cap b0 : Nat) (w : World) (hn : 0 < n) (_hm : n ≤ 9223372036854775807) (_hcap : n ≤ cap) (_hcm : cap ≤ 9223372036854775807) (hc : w.cell? ⟨b, off, none⟩ = some (.int .u8 (b0 : Nat))) (h1 : 192 ≤ b0) (h2 : b0 < 224) (h3 : 2 ≤ n)
    (hl : Calls Tryd.prog 29 #[.slice (some ⟨b, off + 1, none⟩) 1 (cap - 1)] w fun e w' => e = .returned (.int .i64 (-1)) ∧ w = w') :
    Calls Tryd.prog 13 #[.slice (some ⟨b, off, none⟩) n cap] w (RrPost 0 0 w) := by
  have HL := Lib.hid hl
  clear hl
  go_enter Tryd.func13, Tryd.ntmps13
  go_wp2_with (go_at_call 29; refine HL.out.mono ?_; rintro e w' ⟨rfl, rfl⟩)
  go_ret2
  exact ⟨rfl, Below.refl _ _⟩

set_option maxRecDepth 100000 in
set_option maxHeartbeats 400000 in
theorem rr2_notfine (b off n cap b0 : Nat) (w : World) (hn : 0 < n) (_hm : n ≤ 9223372036854775807) (_hcap : n ≤ cap) (_hcm : cap ≤ 9223372036854775807) (hc : w.cell? ⟨b, off, none⟩ = some (.int .u8 (b0 : Nat))) (h1 : 192 ≤ b0) (h2 : b0 < 224) (L : Int) (hL0 : 0 ≤ L) (hL1 : L < 262144) (h3 : 2 ≤ n)
    (hl : Calls Tryd.prog 29 #[.slice (some ⟨b, off + 1, none⟩) 1 (cap - 1)] w fun e w' => e = .returned (.int .i64 L) ∧ w = w') (hf : fineB (pw ((b0 : Int) - 192) 1 + L) = false) :
    Calls Tryd.prog 13 #[.slice (some ⟨b, off, none⟩) n cap] w (RrPost 0 0 w) := by
  have HL := Lib.hid hl
  clear hl
  have hpw := pw_bd ((b0 : Int) - 192) (by omega) (by omega)
  have HP := Lib.hid hpw
  have hp3 := hpw 1 (by omega)
  clear hpw
  have HF := Lib.hid hf
  clear hf
  go_enter Tryd.func13, Tryd.ntmps13
  go_wp2_with (go_at_call 29; refine (HL.out).mono ?_; rintro e w' ⟨rfl, rfl⟩)
  go_loop [6, 8] (fun t i => ∃ k : Nat, k ≤ 1 ∧ i = .int .i64 ((k : Int) + 1) ∧ t = .int .i64 (pw ((b0 : Int) - 192) k)) (fun _ i => 2 - (RowKit.intOf i).toNat)
  case atStart => exact ⟨0, by omega, by first | rfl | simp, rfl⟩
  case round =>
    obtain ⟨k, hk, rfl, rfl⟩ := hrel
    have hb := HP.out k (by omega)
    by_cases hlt : k < 1
    · go_wp2
      go_round
      case rel => exact ⟨k + 1, by omega, by go_num, rfl⟩
      case measure => simp [RowKit.intOf]; omega
    · obtain rfl : k = 1 := by omega
      clear hlt hk hb
      go_wp2_with (go_at_call 21; refine (rfine_no HF.out _).mono ?_; rintro e w' ⟨rfl, rfl⟩)
      go_ret2
      exact ⟨rfl, Below.refl _ _⟩

set_option maxRecDepth 100000 in
set_option maxHeartbeats 400000 in
theorem rr2_wide (b off n cap b0 : Nat) (w : World) (hn : 0 < n) (_hm : n ≤ 9223372036854775807) (_hcap : n ≤ cap) (_hcm : cap ≤ 9223372036854775807) (hc : w.cell? ⟨b, off, none⟩ = some (.int .u8 (b0 : Nat))) (h1 : 192 ≤ b0) (h2 : b0 < 224) (L : Int) (hL0 : 0 ≤ L) (hL1 : L < 262144) (h3 : 2 ≤ n)
    (hl : Calls Tryd.prog 29 #[.slice (some ⟨b, off + 1, none⟩) 1 (cap - 1)] w fun e w' => e = .returned (.int .i64 L) ∧ w = w') (hf : fineB (pw ((b0 : Int) - 192) 1 + L) = true) (hb2 : pw ((b0 : Int) - 192) 1 + L ≤ 1114111) (l : Nat) (hq : (putZ (pw ((b0 : Int) - 192) 1 + L)).length = l) (hne : ((l : Int) != 2) = true) :
    Calls Tryd.prog 13 #[.slice (some ⟨b, off, none⟩) n cap] w (RrPost 0 0 w) := by
  have HL := Lib.hid hl
  clear hl
  have hpw := pw_bd ((b0 : Int) - 192) (by omega) (by omega)
  have HP := Lib.hid hpw
  have hp3 := hpw 1 (by omega)
  clear hpw
  have HF := Lib.hid hf
  clear hf
  have HQ := Lib.hid hq
  clear hq
  go_enter Tryd.func13, Tryd.ntmps13
  go_wp2_with (go_at_call 29; refine (HL.out).mono ?_; rintro e w' ⟨rfl, rfl⟩)
  go_loop [6, 8] (fun t i => ∃ k : Nat, k ≤ 1 ∧ i = .int .i64 ((k : Int) + 1) ∧ t = .int .i64 (pw ((b0 : Int) - 192) k)) (fun _ i => 2 - (RowKit.intOf i).toNat)
  case atStart => exact ⟨0, by omega, by first | rfl | simp, rfl⟩
  case round =>
    obtain ⟨k, hk, rfl, rfl⟩ := hrel
    have hb := HP.out k (by omega)
    by_cases hlt : k < 1
    · go_wp2
      go_round
      case rel => exact ⟨k + 1, by omega, by go_num, rfl⟩
      case measure => simp [RowKit.intOf]; omega
    · obtain rfl : k = 1 := by omega
      clear hlt hk hb
      go_wp2_with (first | (go_at_call 21; refine (rfine_yes HF.out _).mono ?_; rintro e w' ⟨rfl, rfl⟩) | (go_at_call 26; refine (rput_len _ (by omega) (by omega) l HQ.out _).mono ?_; rintro e w' ⟨rfl, hb⟩; have HB := Lib.hid hb; clear hb))
      go_ret2
      exact ⟨rfl, HB.out⟩

set_option maxRecDepth 100000 in
set_option maxHeartbeats 400000 in
theorem rr2_good (b off n cap b0 : Nat) (w : World) (hn : 0 < n) (_hm : n ≤ 9223372036854775807) (_hcap : n ≤ cap) (_hcm : cap ≤ 9223372036854775807) (hc : w.cell? ⟨b, off, none⟩ = some (.int .u8 (b0 : Nat))) (h1 : 192 ≤ b0) (h2 : b0 < 224) (L : Int) (hL0 : 0 ≤ L) (hL1 : L < 262144) (h3 : 2 ≤ n)
    (hl : Calls Tryd.prog 29 #[.slice (some ⟨b, off + 1, none⟩) 1 (cap - 1)] w fun e w' => e = .returned (.int .i64 L) ∧ w = w') (hf : fineB (pw ((b0 : Int) - 192) 1 + L) = true) (hb2 : pw ((b0 : Int) - 192) 1 + L ≤ 1114111) (hq : (putZ (pw ((b0 : Int) - 192) 1 + L)).length = 2) :
    Calls Tryd.prog 13 #[.slice (some ⟨b, off, none⟩) n cap] w (RrPost (pw ((b0 : Int) - 192) 1 + L) 2 w) := by
  have HL := Lib.hid hl
  clear hl
  have hpw := pw_bd ((b0 : Int) - 192) (by omega) (by omega)
  have HP := Lib.hid hpw
  have hp3 := hpw 1 (by omega)
  clear hpw
  have HF := Lib.hid hf
  clear hf
  have HQ := Lib.hid hq
  clear hq
  go_enter Tryd.func13, Tryd.ntmps13
  go_wp2_with (go_at_call 29; refine (HL.out).mono ?_; rintro e w' ⟨rfl, rfl⟩)
  go_loop [6, 8] (fun t i => ∃ k : Nat, k ≤ 1 ∧ i = .int .i64 ((k : Int) + 1) ∧ t = .int .i64 (pw ((b0 : Int) - 192) k)) (fun _ i => 2 - (RowKit.intOf i).toNat)
  case atStart => exact ⟨0, by omega, by first | rfl | simp, rfl⟩
  case round =>
    obtain ⟨k, hk, rfl, rfl⟩ := hrel
    have hb := HP.out k (by omega)
    by_cases hlt : k < 1
    · go_wp2
      go_round
      case rel => exact ⟨k + 1, by omega, by go_num, rfl⟩
      case measure => simp [RowKit.intOf]; omega
    · obtain rfl : k = 1 := by omega
      clear hlt hk hb
      go_wp2_with (first | (go_at_call 21; refine (rfine_yes HF.out _).mono ?_; rintro e w' ⟨rfl, rfl⟩) | (go_at_call 26; refine (rput_len _ (by omega) (by omega) 2 HQ.out _).mono ?_; rintro e w' ⟨rfl, hb⟩; have HB := Lib.hid hb; clear hb))
      go_ret2
      exact ⟨rfl, HB.out⟩

set_option maxRecDepth 100000 in
set_option maxHeartbeats 400000 in
theorem rr3_short (b off n cap b0 : Nat) (w : World) (hn : 0 < n) (_hm : n ≤ 9223372036854775807) (_hcap : n ≤ cap) (_hcm : cap ≤ 9223372036854775807) (hc : w.cell? ⟨b, off, none⟩ = some (.int .u8 (b0 : Nat))) (h1 : 224 ≤ b0) (h2 : b0 < 240) (h3 : n < 3) :
    Calls Tryd.prog 13 #[.slice (some ⟨b, off, none⟩) n cap] w (RrPost 0 0 w) := by
  go_enter Tryd.func13, Tryd.ntmps13
  go_wp2
  go_ret2
  exact ⟨rfl, Below.refl _ _⟩

set_option maxRecDepth 100000 in
set_option maxHeartbeats 400000 in
theorem rr3_low (b off n cap b0 : Nat) (w : World) (hn : 0 < n) (_hm : n ≤ 9223372036854775807) (_hcap : n ≤ cap) (_hcm : cap ≤ 9223372036854775807) (hc : w.cell? ⟨b, off, none⟩ = some (.int .u8 (b0 : Nat))) (h1 : 224 ≤ b0) (h2 : b0 < 240) (h3 : 3 ≤ n)
    (hl : Calls Tryd.prog 29 #[.slice (some ⟨b, off + 1, none⟩) 2 (cap - 1)] w fun e w' => e = .returned (.int .i64 (-1)) ∧ w = w') :
    Calls Tryd.prog 13 #[.slice (some ⟨b, off, none⟩) n cap] w (RrPost 0 0 w) := by
  have HL := Lib.hid hl
  clear hl
  go_enter Tryd.func13, Tryd.ntmps13
  go_wp2_with (go_at_call 29; refine HL.out.mono ?_; rintro e w' ⟨rfl, rfl⟩)
  go_ret2
  exact ⟨rfl, Below.refl _ _⟩

set_option maxRecDepth 100000 in
set_option maxHeartbeats 400000 in
theorem rr3_notfine (b off n cap b0 : Nat) (w : World) (hn : 0 < n) (_hm : n ≤ 9223372036854775807) (_hcap : n ≤ cap) (_hcm : cap ≤ 9223372036854775807) (hc : w.cell? ⟨b, off, none⟩ = some (.int .u8 (b0 : Nat))) (h1 : 224 ≤ b0) (h2 : b0 < 240) (L : Int) (hL0 : 0 ≤ L) (hL1 : L < 262144) (h3 : 3 ≤ n)
    (hl : Calls Tryd.prog 29 #[.slice (some ⟨b, off + 1, none⟩) 2 (cap - 1)] w fun e w' => e = .returned (.int .i64 L) ∧ w = w') (hf : fineB (pw ((b0 : Int) - 224) 2 + L) = false) :
    Calls Tryd.prog 13 #[.slice (some ⟨b, off, none⟩) n cap] w (RrPost 0 0 w) := by
  have HL := Lib.hid hl
  clear hl
  have hpw := pw_bd ((b0 : Int) - 224) (by omega) (by omega)
  have HP := Lib.hid hpw
  have hp3 := hpw 2 (by omega)
  clear hpw
  have HF := Lib.hid hf
  clear hf
  go_enter Tryd.func13, Tryd.ntmps13
  go_wp2_with (go_at_call 29; refine (HL.out).mono ?_; rintro e w' ⟨rfl, rfl⟩)
  go_loop [6, 8] (fun t i => ∃ k : Nat, k ≤ 2 ∧ i = .int .i64 ((k : Int) + 1) ∧ t = .int .i64 (pw ((b0 : Int) - 224) k)) (fun _ i => 3 - (RowKit.intOf i).toNat)
  case atStart => exact ⟨0, by omega, by first | rfl | simp, rfl⟩
  case round =>
    obtain ⟨k, hk, rfl, rfl⟩ := hrel
    have hb := HP.out k (by omega)
    by_cases hlt : k < 2
    · go_wp2
      go_round
      case rel => exact ⟨k + 1, by omega, by go_num, rfl⟩
      case measure => simp [RowKit.intOf]; omega
    · obtain rfl : k = 2 := by omega
      clear hlt hk hb
      go_wp2_with (go_at_call 21; refine (rfine_no HF.out _).mono ?_; rintro e w' ⟨rfl, rfl⟩)
      go_ret2
      exact ⟨rfl, Below.refl _ _⟩

set_option maxRecDepth 100000 in
set_option maxHeartbeats 400000 in
theorem rr3_wide (b off n cap b0 : Nat) (w : World) (hn : 0 < n) (_hm : n ≤ 9223372036854775807) (_hcap : n ≤ cap) (_hcm : cap ≤ 9223372036854775807) (hc : w.cell? ⟨b, off, none⟩ = some (.int .u8 (b0 : Nat))) (h1 : 224 ≤ b0) (h2 : b0 < 240) (L : Int) (hL0 : 0 ≤ L) (hL1 : L < 262144) (h3 : 3 ≤ n)
    (hl : Calls Tryd.prog 29 #[.slice (some ⟨b, off + 1, none⟩) 2 (cap - 1)] w fun e w' => e = .returned (.int .i64 L) ∧ w = w') (hf : fineB (pw ((b0 : Int) - 224) 2 + L) = true) (hb2 : pw ((b0 : Int) - 224) 2 + L ≤ 1114111) (l : Nat) (hq : (putZ (pw ((b0 : Int) - 224) 2 + L)).length = l) (hne : ((l : Int) != 3) = true) :
    Calls Tryd.prog 13 #[.slice (some ⟨b, off, none⟩) n cap] w (RrPost 0 0 w) := by
  have HL := Lib.hid hl
  clear hl
  have hpw := pw_bd ((b0 : Int) - 224) (by omega) (by omega)
  have HP := Lib.hid hpw
  have hp3 := hpw 2 (by omega)
  clear hpw
  have HF := Lib.hid hf
  clear hf
  have HQ := Lib.hid hq
  clear hq
  go_enter Tryd.func13, Tryd.ntmps13
  go_wp2_with (go_at_call 29; refine (HL.out).mono ?_; rintro e w' ⟨rfl, rfl⟩)
  go_loop [6, 8] (fun t i => ∃ k : Nat, k ≤ 2 ∧ i = .int .i64 ((k : Int) + 1) ∧ t = .int .i64 (pw ((b0 : Int) - 224) k)) (fun _ i => 3 - (RowKit.intOf i).toNat)
  case atStart => exact ⟨0, by omega, by first | rfl | simp, rfl⟩
  case round =>
    obtain ⟨k, hk, rfl, rfl⟩ := hrel
    have hb := HP.out k (by omega)
    by_cases hlt : k < 2
    · go_wp2
      go_round
      case rel => exact ⟨k + 1, by omega, by go_num, rfl⟩
      case measure => simp [RowKit.intOf]; omega
    · obtain rfl : k = 2 := by omega
      clear hlt hk hb
      go_wp2_with (first | (go_at_call 21; refine (rfine_yes HF.out _).mono ?_; rintro e w' ⟨rfl, rfl⟩) | (go_at_call 26; refine (rput_len _ (by omega) (by omega) l HQ.out _).mono ?_; rintro e w' ⟨rfl, hb⟩; have HB := Lib.hid hb; clear hb))
      go_ret2
      exact ⟨rfl, HB.out⟩

set_option maxRecDepth 100000 in
set_option maxHeartbeats 400000 in
theorem rr3_good (b off n cap b0 : Nat) (w : World) (hn : 0 < n) (_hm : n ≤ 9223372036854775807) (_hcap : n ≤ cap) (_hcm : cap ≤ 9223372036854775807) (hc : w.cell? ⟨b, off, none⟩ = some (.int .u8 (b0 : Nat))) (h1 : 224 ≤ b0) (h2 : b0 < 240) (L : Int) (hL0 : 0 ≤ L) (hL1 : L < 262144) (h3 : 3 ≤ n)
    (hl : Calls Tryd.prog 29 #[.slice (some ⟨b, off + 1, none⟩) 2 (cap - 1)] w fun e w' => e = .returned (.int .i64 L) ∧ w = w') (hf : fineB (pw ((b0 : Int) - 224) 2 + L) = true) (hb2 : pw ((b0 : Int) - 224) 2 + L ≤ 1114111) (hq : (putZ (pw ((b0 : Int) - 224) 2 + L)).length = 3) :
    Calls Tryd.prog 13 #[.slice (some ⟨b, off, none⟩) n cap] w (RrPost (pw ((b0 : Int) - 224) 2 + L) 3 w) := by
  have HL := Lib.hid hl
  clear hl
  have hpw := pw_bd ((b0 : Int) - 224) (by omega) (by omega)
  have HP := Lib.hid hpw
  have hp3 := hpw 2 (by omega)
  clear hpw
  have HF := Lib.hid hf
  clear hf
  have HQ := Lib.hid hq
  clear hq
  go_enter Tryd.func13, Tryd.ntmps13
  go_wp2_with (go_at_call 29; refine (HL.out).mono ?_; rintro e w' ⟨rfl, rfl⟩)
  go_loop [6, 8] (fun t i => ∃ k : Nat, k ≤ 2 ∧ i = .int .i64 ((k : Int) + 1) ∧ t = .int .i64 (pw ((b0 : Int) - 224) k)) (fun _ i => 3 - (RowKit.intOf i).toNat)
  case atStart => exact ⟨0, by omega, by first | rfl | simp, rfl⟩
  case round =>
    obtain ⟨k, hk, rfl, rfl⟩ := hrel
    have hb := HP.out k (by omega)
    by_cases hlt : k < 2
    · go_wp2
      go_round
      case rel => exact ⟨k + 1, by omega, by go_num, rfl⟩
      case measure => simp [RowKit.intOf]; omega
    · obtain rfl : k = 2 := by omega
      clear hlt hk hb
      go_wp2_with (first | (go_at_call 21; refine (rfine_yes HF.out _).mono ?_; rintro e w' ⟨rfl, rfl⟩) | (go_at_call 26; refine (rput_len _ (by omega) (by omega) 3 HQ.out _).mono ?_; rintro e w' ⟨rfl, hb⟩; have HB := Lib.hid hb; clear hb))
      go_ret2
      exact ⟨rfl, HB.out⟩

set_option maxRecDepth 100000 in
set_option maxHeartbeats 400000 in
theorem rr4_short (b off n cap b0 : Nat) (w : World) (hn : 0 < n) (_hm : n ≤ 9223372036854775807) (_hcap : n ≤ cap) (_hcm : cap ≤ 9223372036854775807) (hc : w.cell? ⟨b, off, none⟩ = some (.int .u8 (b0 : Nat))) (h1 : 240 ≤ b0) (h2 : b0 < 248) (h3 : n < 4) :
    Calls Tryd.prog 13 #[.slice (some ⟨b, off, none⟩) n cap] w (RrPost 0 0 w) := by
  go_enter Tryd.func13, Tryd.ntmps13
  go_wp2
  go_ret2
  exact ⟨rfl, Below.refl _ _⟩

set_option maxRecDepth 100000 in
set_option maxHeartbeats 400000 in
theorem rr4_low (b off n cap b0 : Nat) (w : World) (hn : 0 < n) (_hm : n ≤ 9223372036854775807) (_hcap : n ≤ cap) (_hcm : cap ≤ 9223372036854775807) (hc : w.cell? ⟨b, off, none⟩ = some (.int .u8 (b0 : Nat))) (h1 : 240 ≤ b0) (h2 : b0 < 248) (h3 : 4 ≤ n)
    (hl : Calls Tryd.prog 29 #[.slice (some ⟨b, off + 1, none⟩) 3 (cap - 1)] w fun e w' => e = .returned (.int .i64 (-1)) ∧ w = w') :
    Calls Tryd.prog 13 #[.slice (some ⟨b, off, none⟩) n cap] w (RrPost 0 0 w) := by
  have HL := Lib.hid hl
  clear hl
  go_enter Tryd.func13, Tryd.ntmps13
  go_wp2_with (go_at_call 29; refine HL.out.mono ?_; rintro e w' ⟨rfl, rfl⟩)
  go_ret2
  exact ⟨rfl, Below.refl _ _⟩

set_option maxRecDepth 100000 in
set_option maxHeartbeats 400000 in
theorem rr4_notfine (b off n cap b0 : Nat) (w : World) (hn : 0 < n) (_hm : n ≤ 9223372036854775807) (_hcap : n ≤ cap) (_hcm : cap ≤ 9223372036854775807) (hc : w.cell? ⟨b, off, none⟩ = some (.int .u8 (b0 : Nat))) (h1 : 240 ≤ b0) (h2 : b0 < 248) (L : Int) (hL0 : 0 ≤ L) (hL1 : L < 262144) (h3 : 4 ≤ n)
    (hl : Calls Tryd.prog 29 #[.slice (some ⟨b, off + 1, none⟩) 3 (cap - 1)] w fun e w' => e = .returned (.int .i64 L) ∧ w = w') (hf : fineB (pw ((b0 : Int) - 240) 3 + L) = false) :
    Calls Tryd.prog 13 #[.slice (some ⟨b, off, none⟩) n cap] w (RrPost 0 0 w) := by
  have HL := Lib.hid hl
  clear hl
  have hpw := pw_bd ((b0 : Int) - 240) (by omega) (by omega)
  have HP := Lib.hid hpw
  have hp3 := hpw 3 (by omega)
  clear hpw
  have HF := Lib.hid hf
  clear hf
  go_enter Tryd.func13, Tryd.ntmps13
  go_wp2_with (go_at_call 29; refine (HL.out).mono ?_; rintro e w' ⟨rfl, rfl⟩)
  go_loop [6, 8] (fun t i => ∃ k : Nat, k ≤ 3 ∧ i = .int .i64 ((k : Int) + 1) ∧ t = .int .i64 (pw ((b0 : Int) - 240) k)) (fun _ i => 4 - (RowKit.intOf i).toNat)
  case atStart => exact ⟨0, by omega, by first | rfl | simp, rfl⟩
  case round =>
    obtain ⟨k, hk, rfl, rfl⟩ := hrel
    have hb := HP.out k (by omega)
    by_cases hlt : k < 3
    · go_wp2
      go_round
      case rel => exact ⟨k + 1, by omega, by go_num, rfl⟩
      case measure => simp [RowKit.intOf]; omega
    · obtain rfl : k = 3 := by omega
      clear hlt hk hb
      go_wp2_with (go_at_call 21; refine (rfine_no HF.out _).mono ?_; rintro e w' ⟨rfl, rfl⟩)
      go_ret2
      exact ⟨rfl, Below.refl _ _⟩

set_option maxRecDepth 100000 in
set_option maxHeartbeats 400000 in
theorem rr4_wide (b off n cap b0 : Nat) (w : World) (hn : 0 < n) (_hm : n ≤ 9223372036854775807) (_hcap : n ≤ cap) (_hcm : cap ≤ 9223372036854775807) (hc : w.cell? ⟨b, off, none⟩ = some (.int .u8 (b0 : Nat))) (h1 : 240 ≤ b0) (h2 : b0 < 248) (L : Int) (hL0 : 0 ≤ L) (hL1 : L < 262144) (h3 : 4 ≤ n)
    (hl : Calls Tryd.prog 29 #[.slice (some ⟨b, off + 1, none⟩) 3 (cap - 1)] w fun e w' => e = .returned (.int .i64 L) ∧ w = w') (hf : fineB (pw ((b0 : Int) - 240) 3 + L) = true) (hb2 : pw ((b0 : Int) - 240) 3 + L ≤ 1114111) (l : Nat) (hq : (putZ (pw ((b0 : Int) - 240) 3 + L)).length = l) (hne : ((l : Int) != 4) = true) :
    Calls Tryd.prog 13 #[.slice (some ⟨b, off, none⟩) n cap] w (RrPost 0 0 w) := by
  have HL := Lib.hid hl
  clear hl
  have hpw := pw_bd ((b0 : Int) - 240) (by omega) (by omega)
  have HP := Lib.hid hpw
  have hp3 := hpw 3 (by omega)
  clear hpw
  have HF := Lib.hid hf
  clear hf
  have HQ := Lib.hid hq
  clear hq
  go_enter Tryd.func13, Tryd.ntmps13
  go_wp2_with (go_at_call 29; refine (HL.out).mono ?_; rintro e w' ⟨rfl, rfl⟩)
  go_loop [6, 8] (fun t i => ∃ k : Nat, k ≤ 3 ∧ i = .int .i64 ((k : Int) + 1) ∧ t = .int .i64 (pw ((b0 : Int) - 240) k)) (fun _ i => 4 - (RowKit.intOf i).toNat)
  case atStart => exact ⟨0, by omega, by first | rfl | simp, rfl⟩
  case round =>
    obtain ⟨k, hk, rfl, rfl⟩ := hrel
    have hb := HP.out k (by omega)
    by_cases hlt : k < 3
    · go_wp2
      go_round
      case rel => exact ⟨k + 1, by omega, by go_num, rfl⟩
      case measure => simp [RowKit.intOf]; omega
    · obtain rfl : k = 3 := by omega
      clear hlt hk hb
      go_wp2_with (first | (go_at_call 21; refine (rfine_yes HF.out _).mono ?_; rintro e w' ⟨rfl, rfl⟩) | (go_at_call 26; refine (rput_len _ (by omega) (by omega) l HQ.out _).mono ?_; rintro e w' ⟨rfl, hb⟩; have HB := Lib.hid hb; clear hb))
      go_ret2
      exact ⟨rfl, HB.out⟩

set_option maxRecDepth 100000 in
set_option maxHeartbeats 400000 in
theorem rr4_good (b off n cap b0 : Nat) (w : World) (hn : 0 < n) (_hm : n ≤ 9223372036854775807) (_hcap : n ≤ cap) (_hcm : cap ≤ 9223372036854775807) (hc : w.cell? ⟨b, off, none⟩ = some (.int .u8 (b0 : Nat))) (h1 : 240 ≤ b0) (h2 : b0 < 248) (L : Int) (hL0 : 0 ≤ L) (hL1 : L < 262144) (h3 : 4 ≤ n)
    (hl : Calls Tryd.prog 29 #[.slice (some ⟨b, off + 1, none⟩) 3 (cap - 1)] w fun e w' => e = .returned (.int .i64 L) ∧ w = w') (hf : fineB (pw ((b0 : Int) - 240) 3 + L) = true) (hb2 : pw ((b0 : Int) - 240) 3 + L ≤ 1114111) (hq : (putZ (pw ((b0 : Int) - 240) 3 + L)).length = 4) :
    Calls Tryd.prog 13 #[.slice (some ⟨b, off, none⟩) n cap] w (RrPost (pw ((b0 : Int) - 240) 3 + L) 4 w) := by
  have HL := Lib.hid hl
  clear hl
  have hpw := pw_bd ((b0 : Int) - 240) (by omega) (by omega)
  have HP := Lib.hid hpw
  have hp3 := hpw 3 (by omega)
  clear hpw
  have HF := Lib.hid hf
  clear hf
  have HQ := Lib.hid hq
  clear hq
  go_enter Tryd.func13, Tryd.ntmps13
  go_wp2_with (go_at_call 29; refine (HL.out).mono ?_; rintro e w' ⟨rfl, rfl⟩)
  go_loop [6, 8] (fun t i => ∃ k : Nat, k ≤ 3 ∧ i = .int .i64 ((k : Int) + 1) ∧ t = .int .i64 (pw ((b0 : Int) - 240) k)) (fun _ i => 4 - (RowKit.intOf i).toNat)
  case atStart => exact ⟨0, by omega, by first | rfl | simp, rfl⟩
  case round =>
    obtain ⟨k, hk, rfl, rfl⟩ := hrel
    have hb := HP.out k (by omega)
    by_cases hlt : k < 3
    · go_wp2
      go_round
      case rel => exact ⟨k + 1, by omega, by go_num, rfl⟩
      case measure => simp [RowKit.intOf]; omega
    · obtain rfl : k = 3 := by omega
      clear hlt hk hb
      go_wp2_with (first | (go_at_call 21; refine (rfine_yes HF.out _).mono ?_; rintro e w' ⟨rfl, rfl⟩) | (go_at_call 26; refine (rput_len _ (by omega) (by omega) 4 HQ.out _).mono ?_; rintro e w' ⟨rfl, hb⟩; have HB := Lib.hid hb; clear hb))
      go_ret2
      exact ⟨rfl, HB.out⟩

end Go.Proofs.YthlofckaljkhhaaDoor
