/- The reference's Rune and Check over bytes that are a ByteArray. -/
import Derived.Test.YthlofckaljkhhaaDoorDec
namespace Go.Proofs.YthlofckaljkhhaaDoor
open Go.RowKit Go.Lib

theorem rr_at (s : ByteArray) (k b off n m cap : Nat) (hk : k < s.size) (hn : n = s.size - k) (hm : n ≤ cap) (hc : cap ≤ 9223372036854775807) (ho : m = off + k) (w : World)
    (hp : ∀ j, j < s.size → w.cell? ⟨b, off + j, none⟩ = some (.int .u8 (s.get! j).toNat)) :
    Calls Tryd.prog 13 #[.slice (some ⟨b, m, none⟩) n cap] w (RrPost (refD (Utf8.decode s k)).1 (refD (Utf8.decode s k)).2 w) := by
  subst ho hn
  have h := rr_any (fun j => (s.get! (k + j)).toNat) (fun j => (s.get! (k + j)).toNat_lt) b (off + k) (s.size - k) cap w (by omega) hm hc (fun j hj => by
    rw [Nat.add_assoc]; exact hp (k + j) (by omega))
  rw [decode_at]
  simpa using h

theorem refD_good {d : Nat × Nat} (h : goodD d = true) : refD d = ((d.1 : Int), (d.2 : Int)) := by simp [refD, h]
theorem refD_fail {d : Nat × Nat} (h : goodD d = false) : refD d = (0, 0) := by simp [refD, h]

theorem rr_good (s : ByteArray) (k b off n m cap R K : Nat) (hk : k < s.size) (hn : n = s.size - k) (hm : n ≤ cap) (hc : cap ≤ 9223372036854775807) (ho : m = off + k) (w : World)
    (hp : ∀ j, j < s.size → w.cell? ⟨b, off + j, none⟩ = some (.int .u8 (s.get! j).toNat)) (hd : Utf8.decode s k = (R, K)) (hg : goodD (R, K) = true) :
    Calls Tryd.prog 13 #[.slice (some ⟨b, m, none⟩) n cap] w fun e w' => e = .returned (.tuple #[.int .i64 R, .int .i64 K]) ∧ Below w.heap.size w w' := by
  have h := rr_at s k b off n m cap hk hn hm hc ho w hp
  rw [hd, refD_good hg] at h
  exact h
theorem rr_bad (s : ByteArray) (k b off n m cap R K : Nat) (hk : k < s.size) (hn : n = s.size - k) (hm : n ≤ cap) (hc : cap ≤ 9223372036854775807) (ho : m = off + k) (w : World)
    (hp : ∀ j, j < s.size → w.cell? ⟨b, off + j, none⟩ = some (.int .u8 (s.get! j).toNat)) (hd : Utf8.decode s k = (R, K)) (hg : goodD (R, K) = false) :
    Calls Tryd.prog 13 #[.slice (some ⟨b, m, none⟩) n cap] w fun e w' => e = .returned (.tuple #[.int .i64 0, .int .i64 0]) ∧ Below w.heap.size w w' := by
  have h := rr_at s k b off n m cap hk hn hm hc ho w hp
  rw [hd, refD_fail hg] at h
  exact h

theorem cells_below {s : ByteArray} {b off : Nat} {w w' : World} {B : Nat} (hb : Below B w w') (hB : b < B)
    (hp : ∀ j, j < s.size → w.cell? ⟨b, off + j, none⟩ = some (.int .u8 (s.get! j).toNat)) :
    ∀ j, j < s.size → w'.cell? ⟨b, off + j, none⟩ = some (.int .u8 (s.get! j).toNat) := fun j hj => by
  rw [hb.cell (by exact hB)]; exact hp j hj

set_option maxHeartbeats 1000000 in
theorem rcheck_some (s : ByteArray) (b off cap n : Nat) (hn : n = s.size) (w : World) (hB : b < w.heap.size) (hc : n ≤ cap) (hm : cap ≤ 9223372036854775807)
    (hp : ∀ j, j < s.size → w.cell? ⟨b, off + j, none⟩ = some (.int .u8 (s.get! j).toNat)) :
    Calls Tryd.prog 11 #[.slice (some ⟨b, off, none⟩) n cap] w fun e w' =>
      e = .returned (.int .i64 (badAt s : Nat)) ∧ Below w.heap.size w w' := by
  have HP := Lib.hid hp
  have hsz : s.size ≤ 9223372036854775807 := by omega
  have HN := Lib.hid hn
  clear hp hn
  go_enter Tryd.func11, Tryd.ntmps11
  go_wp2
  go_loopg [3] s.size (fun g i wx => ∃ pos : Nat, i = .int .i64 pos ∧ Below w.heap.size w wx ∧ badFrom s g pos = badAt s ∧ pos ≤ n ∧ n ≤ pos + g)
  case atStart => exact ⟨0, rfl, Below.refl _ _, rfl, Nat.zero_le _, by have := HN.out; omega⟩
  case round =>
    obtain ⟨pos, rfl, hbw, hbad, hps, hfu⟩ := hrel
    by_cases hp : pos < n
    · obtain ⟨g, rfl⟩ : ∃ g, gk = g + 1 := ⟨gk - 1, by omega⟩
      have hp' : pos < s.size := by have := HN.out; omega
      have hwd := width_le s pos hp'
      simp only [badFrom, hp', if_true] at hbad
      have cG := rr_good s pos b off (n - pos) (off + pos) (cap - pos)
      have cB := rr_bad s pos b off (n - pos) (off + pos) (cap - pos)
      have hcl := cells_below hbw hB HP.out
      obtain ⟨R, hR⟩ : ∃ R, (Utf8.decode s pos).1 = R := ⟨_, rfl⟩
      obtain ⟨K, hK⟩ : ∃ K, (Utf8.decode s pos).2 = K := ⟨_, rfl⟩
      have hdec : Utf8.decode s pos = (R, K) := by rw [← hR, ← hK]
      rw [hdec] at hbad
      rw [hK] at hwd
      cases hg : goodD (R, K) with
      | true =>
        have CD := Lib.hid (cG R K hp' (by have := HN.out; omega) (by omega) (by omega) rfl wr hcl hdec hg)
        rw [hg] at hbad
        have hK1 : 1 ≤ K := hwd.1
        have hK2 : K ≤ n - pos := by have := HN.out; omega
        have HBD := Lib.hid hbad
        have HBW := Lib.hid hbw
        have HFU := Lib.hid hfu
        clear cG cB hcl hR hK hdec hbad hbw hg hwd
        go_wp2_with (go_at_call 13; refine CD.out.mono ?_; rintro e w' ⟨rfl, hb⟩; have HB2 := Lib.hid hb; clear hb)
        go_roundg g
        case measure => omega
        case rel => exact ⟨pos + K, by go_num, HBW.out.trans (HB2.out.mono HBW.out.size), by simpa using HBD.out, by omega, by omega⟩
      | false =>
        have CD := Lib.hid (cB R K hp' (by have := HN.out; omega) (by omega) (by omega) rfl wr hcl hdec hg)
        rw [hg] at hbad
        have hbad' : pos = badAt s := by simpa using hbad
        have HBD := Lib.hid hbad'
        have HBW := Lib.hid hbw
        clear cG cB hcl hR hK hdec hbad hbad' hbw hg hwd
        go_wp2_with (go_at_call 13; refine CD.out.mono ?_; rintro e w' ⟨rfl, hb⟩; have HB2 := Lib.hid hb; clear hb)
        go_ret
        exact ⟨ret_int (by rw [← HBD.out]), HBW.out.trans (HB2.out.mono HBW.out.size)⟩
    · have hbad' : badAt s = pos := by
        rw [← hbad]
        have := HN.out
        cases gk <;> simp [badFrom]
        intro h; omega
      have HE := Lib.hid hbad'
      have HBW := Lib.hid hbw
      clear hbad' hbw hbad
      go_wp2
      go_ret
      exact ⟨ret_int (by rw [HE.out]), HBW.out⟩

set_option maxHeartbeats 400000 in
theorem rcheck_zero (p : Option Addr) (cap : Nat) (w : World) :
    Calls Tryd.prog 11 #[.slice p 0 cap] w fun e w' => e = .returned (.int .i64 (badAt ByteArray.empty : Nat)) ∧ Below w.heap.size w w' := by
  have e0 : badAt ByteArray.empty = 0 := rfl
  rw [e0]
  go_enter Tryd.func11, Tryd.ntmps11
  go_wp2
  go_loop [3] (fun i => i = .int .i64 0) (fun _ => 0)
  case atStart => rfl
  case round =>
    subst hrel
    go_wp2
    go_ret
    exact ⟨rfl, Below.refl _ _⟩

/-- A slice of bytes in memory, nil too: the bytes that it holds. -/
def Byt (w : World) (p : Option Addr) (n cap : Nat) (s : ByteArray) : Prop :=
  n = s.size ∧ n ≤ cap ∧ cap ≤ 9223372036854775807 ∧ (n = 0 ∨ ∃ b off, p = some ⟨b, off, none⟩ ∧ b < w.heap.size ∧ ∀ j, j < s.size → w.cell? ⟨b, off + j, none⟩ = some (.int .u8 (s.get! j).toNat))

theorem Byt.below {w w' : World} {p : Option Addr} {n cap : Nat} {s : ByteArray} (h : Byt w p n cap s) (hb : Below w.heap.size w w') : Byt w' p n cap s := by
  obtain ⟨h1, h2, h3, h4⟩ := h
  refine ⟨h1, h2, h3, ?_⟩
  rcases h4 with h4 | ⟨b, off, hp, hB, hc⟩
  · exact Or.inl h4
  · exact Or.inr ⟨b, off, hp, Nat.lt_of_lt_of_le hB hb.size, cells_below hb hB hc⟩

theorem size_zero {s : ByteArray} (h : 0 = s.size) : s = ByteArray.empty := by
  obtain ⟨⟨l⟩⟩ := s
  have : l.length = 0 := h.symm
  rw [List.length_eq_zero_iff] at this
  subst this
  rfl

/-- utf.Check, at whatever slice -/
theorem check_byt {w : World} {p : Option Addr} {n cap : Nat} {s : ByteArray} (h : Byt w p n cap s) (hT : Utf8Tabs 0 1 w) (hB : 1 < w.heap.size) :
    Calls Tryd.prog 10 #[.slice p n cap] w fun e w' => e = .returned (.tuple #[.int .i64 (badAt s : Nat), .int .i64 (errAt s)]) ∧ Below w.heap.size w w' := by
  obtain ⟨h1, h2, h3, h4 | ⟨b, off, rfl, hb, hc⟩⟩ := h
  · subst h4
    obtain rfl := size_zero h1
    exact check_zero p cap w hT hB
  · exact check_some s b off cap n h1 w hT hB h2 h3 hc
end Go.Proofs.YthlofckaljkhhaaDoor
