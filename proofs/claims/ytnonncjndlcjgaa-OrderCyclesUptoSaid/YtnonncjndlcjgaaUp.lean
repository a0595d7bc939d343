/- container/heap's up and down over the queue. -/
import Derived.Test.YtnonncjndlcjgaaHp
namespace Go.Proofs.Ytnonncjndlcjgaa
open Go.RowKit
variable {nm : Nat → ByteArray} {B : Nat} {w : World} {qa : Nat} {H : List Nat} {v : Value}

def UpPost (nm : Nat → ByteArray) (B : Nat) (w : World) (qa : Nat) (H : List Nat) (v : Value) (e : Ending) (w' : World) : Prop :=
  e = .returned (.tuple #[]) ∧ Fr (QT B) w w' ∧ ∃ H', QAt nm B w' qa H' v ∧ H'.Perm H ∧ Pl.HeapTo (ltN nm) H' H'.length

set_option maxHeartbeats 2000000 in
theorem up_any (hq : QAt nm B w qa H v) (hlen : H.length ≤ 1099511627776) (j0 : Nat) (hj0 : j0 < H.length) (hi0 : Pl.UpInv (ltN nm) H j0) :
    Calls Try.prog 34 #[.iface 53 (.pointer (some ⟨qa, 0, none⟩)), .int .i64 j0] w (UpPost nm B w qa H v) := by
  have HQ := Lib.hid hq
  have HI := Lib.hid hi0
  clear hq hi0
  go_enter Try.func34, Try.ntmps34
  go_wp2
  go_loopw [1] (fun j wr => ∃ (k : Nat) (K : List Nat), j = .int .i64 k ∧ k < H.length ∧ K.length = H.length ∧ Fr (QT B) w wr ∧ QAt nm B wr qa K v ∧ K.Perm H ∧ Pl.UpInv (ltN nm) K k) (fun j _ => (RowKit.intOf j).toNat)
  case atStart => exact ⟨j0, H, rfl, hj0, rfl, Fr.refl _, HQ.out, List.Perm.refl _, HI.out⟩
  case round =>
    obtain ⟨k, K, rfl, hk, hKl, hfr, hqr, hperm, hinv⟩ := hrel
    have HF := Lib.hid hfr
    have HQR := Lib.hid hqr
    have HP := Lib.hid hperm
    have HV := Lib.hid hinv
    have HKL := Lib.hid hKl
    clear hfr hqr hperm hinv hKl
    by_cases h0 : k = 0
    · subst h0
      go_wp2
      go_end0
      exact ⟨rfl, HF.out, K, HQR.out, HP.out, Pl.up_done HV.out (Or.inl rfl)⟩
    · obtain ⟨i, hi⟩ : ∃ i, (k - 1) / 2 = i := ⟨_, rfl⟩
      have hik : i < k := by omega
      have e1 : ((k : Int) - 1) / 2 = (i : Int) := by omega
      have e2 : ((i : Int) == (k : Int)) = false := by rw [beq_eq_false_iff_ne]; omega
      have hk1 : (1 : Int) ≤ (k : Int) := by omega
      have HIK := Lib.hid hi
      clear hi h0
      have hm1 := method_less ⟨qa, 0, none⟩ v wr HQR.out.cell
      have HM := Lib.hid hm1
      have hbl : ∃ b, ltN nm (K.getD k 0) (K.getD i 0) = b := ⟨_, rfl⟩
      obtain ⟨b, hb⟩ := hbl
      have cL := less_q HQR.out (show k < K.length by rw [HKL.out]; exact hk) (show i < K.length by rw [HKL.out]; omega)
      rw [hb] at cL
      have CL := Lib.hid cL
      have HB := Lib.hid hb
      clear cL hb
      cases b with
      | false =>
        go_wp2_with (go_at_call 53; refine CL.out.mono ?_; rintro e w' ⟨rfl, q, rfl⟩)
        go_end0
        exact ⟨rfl, HF.out.trans (Fr.drewN _ _), K, HQR.out.drewN q, HP.out, Pl.up_done HV.out (Or.inr (by rw [HIK.out]; exact HB.out))⟩
      | true =>
        have hm2 : ∀ q, (method 189 53 (.pointer (some ⟨qa, 0, none⟩)) "Swap").run Try.prog (wr.drewN q) = .ok (56, v) (wr.drewN q) := fun q => method_swap _ v _ (HQR.out.drewN q).cell
        have cS := fun q => swap_q (HQR.out.drewN q) (show i < K.length by rw [HKL.out]; omega) (show k < K.length by rw [HKL.out]; exact hk)
        have CS := Lib.hid cS
        clear cS
        go_wp2_with (first | (go_at_call 53; refine CL.out.mono ?_; rintro e w' ⟨rfl, q, rfl⟩) | (go_at_call 56; refine (CS.out _).mono ?_; rintro e w' ⟨rfl, hf, hq⟩))
        go_roundw
        case rel => exact ⟨i, Pl.sw K i k, rfl, by omega, by rw [Pl.sw_length]; exact HKL.out, (HF.out.trans (Fr.drewN _ _)).trans hf, hq, (Pl.sw_perm K i k (by rw [HKL.out]; omega) (by rw [HKL.out]; exact hk)).trans HP.out, by
          have := Pl.up_step (ltN_so nm) HV.out (by omega) (by rw [HKL.out]; exact hk) (by rw [HIK.out]; exact HB.out)
          rw [HIK.out] at this
          exact this⟩
        case measure => simp [RowKit.intOf]; omega
end Go.Proofs.Ytnonncjndlcjgaa
