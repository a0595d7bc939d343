/- container/heap's down over the queue. -/
import Derived.Test.YtnonncjndlcjgaaUp
namespace Go.Proofs.Ytnonncjndlcjgaa
open Go.RowKit
variable {nm : Nat → ByteArray} {B : Nat} {w : World} {qa : Nat} {H : List Nat} {v : Value}

def DnPost (nm : Nat → ByteArray) (B : Nat) (w : World) (qa : Nat) (H : List Nat) (n : Nat) (v : Value) (e : Ending) (w' : World) : Prop :=
  (∃ b, e = .returned (.bool b)) ∧ Fr (QT B) w w' ∧ ∃ H', QAt nm B w' qa H' v ∧ H'.Perm H ∧ (∀ k, n ≤ k → H'.getD k 0 = H.getD k 0) ∧ Pl.HeapTo (ltN nm) H' n

theorem sw_beyond (K : List Nat) (i c n k : Nat) (hi : i < K.length) (hc : c < K.length) (hin : i < n) (hcn : c < n) (hk : n ≤ k) : (Pl.sw K i c).getD k 0 = K.getD k 0 := by
  rw [Pl.sw_getD K i c k hi hc, if_neg (by omega), if_neg (by omega)]

set_option maxHeartbeats 4000000 in
theorem down_any (hq : QAt nm B w qa H v) (hlen : H.length ≤ 1099511627776) (n : Nat) (hn : n ≤ H.length) (hi0 : Pl.DnInv (ltN nm) H n 0) :
    Calls Try.prog 35 #[.iface 53 (.pointer (some ⟨qa, 0, none⟩)), .int .i64 0, .int .i64 n] w (DnPost nm B w qa H n v) := by
  have HQ := Lib.hid hq
  have HI := Lib.hid hi0
  clear hq hi0
  go_enter Try.func35, Try.ntmps35
  go_wp2
  go_loopw [7] (fun j wr => ∃ (i : Nat) (K : List Nat), j = .int .i64 i ∧ i ≤ H.length ∧ K.length = H.length ∧ Fr (QT B) w wr ∧ QAt nm B wr qa K v ∧ K.Perm H ∧ (∀ k, n ≤ k → K.getD k 0 = H.getD k 0) ∧ Pl.DnInv (ltN nm) K n i) (fun j _ => H.length - (RowKit.intOf j).toNat)
  case atStart => exact ⟨0, H, rfl, by omega, rfl, Fr.refl _, HQ.out, List.Perm.refl _, fun _ _ => rfl, HI.out⟩
  case round =>
    obtain ⟨i, K, rfl, hin, hKl, hfr, hqr, hperm, hrest, hinv⟩ := hrel
    have HF := Lib.hid hfr
    have HQR := Lib.hid hqr
    have HP := Lib.hid hperm
    have HR := Lib.hid hrest
    have HV := Lib.hid hinv
    have HKL := Lib.hid hKl
    clear hfr hqr hperm hinv hKl hrest
    obtain ⟨c1, hc1⟩ : ∃ c1, 2 * i + 1 = c1 := ⟨_, rfl⟩
    have e1 : 2 * (i : Int) + 1 = (c1 : Int) := by omega
    have HC1 := Lib.hid hc1
    have hc1b : c1 ≤ 2199023255553 := by omega
    clear hc1
    by_cases hA : n ≤ c1
    · have hA' : (n : Int) ≤ (c1 : Int) := by omega
      go_wp2
      go_ret
      exact ⟨⟨_, rfl⟩, HF.out, K, HQR.out, HP.out, HR.out, Pl.dn_none HV.out (by have := HC1.out; omega)⟩
    · have hA' : (c1 : Int) < (n : Int) := by omega
      have hm1 : ∀ q, (method 189 53 (.pointer (some ⟨qa, 0, none⟩)) "Less").run Try.prog (wr.drewN q) = .ok (53, v) (wr.drewN q) := fun q => method_less _ v _ (HQR.out.drewN q).cell
      have hm0 := method_less ⟨qa, 0, none⟩ v wr HQR.out.cell
      have hm2 : ∀ q, (method 189 53 (.pointer (some ⟨qa, 0, none⟩)) "Swap").run Try.prog (wr.drewN q) = .ok (56, v) (wr.drewN q) := fun q => method_swap _ v _ (HQR.out.drewN q).cell
      obtain ⟨c2, hc2⟩ : ∃ c2, c1 + 1 = c2 := ⟨_, rfl⟩
      have e2 : (c1 : Int) + 1 = (c2 : Int) := by omega
      have HC2 := Lib.hid hc2
      clear hc2
      have hlt : ∀ a b : Nat, ∃ x, ltN nm (K.getD a 0) (K.getD b 0) = x := fun _ _ => ⟨_, rfl⟩
      have LQ0 : Hid (∀ a b, a < K.length → b < K.length → Calls Try.prog 53 #[v, .int .i64 a, .int .i64 b] wr fun e w' => e = .returned (.bool (ltN nm (K.getD a 0) (K.getD b 0))) ∧ ∃ q', w' = wr.drewN q') := Lib.hid fun a b ha hb => less_q HQR.out ha hb
      have LQ : Hid (∀ q a b, a < K.length → b < K.length → Calls Try.prog 53 #[v, .int .i64 a, .int .i64 b] (wr.drewN q) fun e w' => e = .returned (.bool (ltN nm (K.getD a 0) (K.getD b 0))) ∧ ∃ q', w' = wr.drewN q') := Lib.hid fun q a b ha hb => (less_q (HQR.out.drewN q) ha hb).mono fun e w' ⟨he, q', hw⟩ => ⟨he, q + q', by rw [hw, World.drewN_drewN]⟩
      have hil : i < K.length := by have := HKL.out; have := HC1.out; omega
      have hc1l : c1 < K.length := by have := HKL.out; omega
      have SQ : Hid (∀ q a b, a < K.length → b < K.length → Calls Try.prog 56 #[v, .int .i64 a, .int .i64 b] (wr.drewN q) fun e w' => e = .returned (.tuple #[]) ∧ Fr (QT B) (wr.drewN q) w' ∧ QAt nm B w' qa (Pl.sw K a b) v) := Lib.hid fun q a b ha hb => swap_q (HQR.out.drewN q) ha hb
      have FIN : Hid (∀ (b : Bool) (c q : Nat), Pl.Least (ltN nm) K n i c → ltN nm (K.getD c 0) (K.getD i 0) = false → DnPost nm B w qa H n v (.returned (.bool b)) (wr.drewN q)) :=
        Lib.hid fun b c q hc hl => ⟨⟨_, rfl⟩, HF.out.trans (Fr.drewN _ _), K, HQR.out.drewN q, HP.out, HR.out, Pl.dn_done (ltN_so nm) HV.out hc hl⟩
      have STEP : Hid (∀ (c q : Nat) (w' : World), Pl.Least (ltN nm) K n i c → ltN nm (K.getD c 0) (K.getD i 0) = true → Fr (QT B) (wr.drewN q) w' → QAt nm B w' qa (Pl.sw K i c) v →
          ∃ (i' : Nat) (K' : List Nat), Value.int .i64 (c : Int) = .int .i64 i' ∧ i' ≤ H.length ∧ K'.length = H.length ∧ Fr (QT B) w w' ∧ QAt nm B w' qa K' v ∧ K'.Perm H ∧ (∀ k, n ≤ k → K'.getD k 0 = H.getD k 0) ∧ Pl.DnInv (ltN nm) K' n i') :=
        Lib.hid fun c q w' hc hl hf hq => by
          have h1 := HKL.out
          have h2 := hc.2.1
          have h3 := hc.2.2.1
          exact ⟨c, Pl.sw K i c, rfl, by omega, by rw [Pl.sw_length]; exact h1, (HF.out.trans (Fr.drewN _ _)).trans hf, hq, (Pl.sw_perm K i c hil (by omega)).trans HP.out,
            fun k hk => (sw_beyond K i c n k hil (by omega) (by omega) h2 hk).trans (HR.out k hk), Pl.dn_step (ltN_so nm) (by omega) HV.out hc hl⟩
      by_cases hB : c2 < n
      · have hB' : (c2 : Int) < (n : Int) := by omega
        have hc2l : c2 < K.length := by have := HKL.out; omega
        obtain ⟨b, hb⟩ := hlt c2 c1
        have C1 := LQ0.out c2 c1 hc2l hc1l
        rw [hb] at C1
        have C1H := Lib.hid C1
        clear C1
        cases b with
        | true =>
          have hleast : Pl.Least (ltN nm) K n i c2 := by
            have h1 := HC1.out
            have h2 := HC2.out
            refine ⟨by omega, hB, by omega, fun k k0 hk hp hne => ?_⟩
            have e : k = c1 := by omega
            subst e
            exact (ltN_so nm).asymm hb
          have HL := Lib.hid hleast
          clear hb hleast
          obtain ⟨b2, hb2⟩ := hlt c2 i
          have C2 := fun q => LQ.out q c2 i hc2l hil
          rw [hb2] at C2
          have C2H := Lib.hid C2
          clear C2
          cases b2 with
          | false =>
            have F := fun b q => FIN.out b c2 q HL.out hb2
            have FH := Lib.hid F
            clear F hb2 hlt
            go_wp2_with fail
            refine C1H.out.mono ?_
            rintro e w' ⟨rfl, q, rfl⟩
            go_wp2_with fail
            refine (C2H.out q).mono ?_
            rintro e w' ⟨rfl, q', rfl⟩
            go_wp2_with fail
            go_ret
            exact FH.out _ _
          | true =>
            have F := fun q w' => STEP.out c2 q w' HL.out hb2
            have FH := Lib.hid F
            clear F hb2 hlt
            go_wp2_with fail
            refine C1H.out.mono ?_
            rintro e w' ⟨rfl, q, rfl⟩
            go_wp2_with fail
            refine (C2H.out q).mono ?_
            rintro e w' ⟨rfl, q', rfl⟩
            go_wp2_with fail
            refine (SQ.out q' i c2 hil hc2l).mono ?_
            rintro e w' ⟨rfl, hf, hq⟩
            go_wp2_with fail
            go_roundw
            case rel => exact FH.out _ _ hf hq
            case measure => have h1 := HC1.out; have h2 := HC2.out; simp [RowKit.intOf]; omega
        | false =>
          have hleast : Pl.Least (ltN nm) K n i c1 := by
            have h1 := HC1.out
            have h2 := HC2.out
            refine ⟨by omega, by omega, by omega, fun k k0 hk hp hne => ?_⟩
            have e : k = c2 := by omega
            subst e
            exact hb
          have HL := Lib.hid hleast
          clear hb hleast
          obtain ⟨b2, hb2⟩ := hlt c1 i
          have C2 := fun q => LQ.out q c1 i hc1l hil
          rw [hb2] at C2
          have C2H := Lib.hid C2
          clear C2
          cases b2 with
          | false =>
            have F := fun b q => FIN.out b c1 q HL.out hb2
            have FH := Lib.hid F
            clear F hb2 hlt
            go_wp2_with fail
            refine C1H.out.mono ?_
            rintro e w' ⟨rfl, q, rfl⟩
            go_wp2_with fail
            refine (C2H.out q).mono ?_
            rintro e w' ⟨rfl, q', rfl⟩
            go_wp2_with fail
            go_ret
            exact FH.out _ _
          | true =>
            have F := fun q w' => STEP.out c1 q w' HL.out hb2
            have FH := Lib.hid F
            clear F hb2 hlt
            go_wp2_with fail
            refine C1H.out.mono ?_
            rintro e w' ⟨rfl, q, rfl⟩
            go_wp2_with fail
            refine (C2H.out q).mono ?_
            rintro e w' ⟨rfl, q', rfl⟩
            go_wp2_with fail
            refine (SQ.out q' i c1 hil hc1l).mono ?_
            rintro e w' ⟨rfl, hf, hq⟩
            go_wp2_with fail
            go_roundw
            case rel => exact FH.out _ _ hf hq
            case measure => have h1 := HC1.out; have h2 := HC2.out; simp [RowKit.intOf]; omega
      · have hB' : (n : Int) ≤ (c2 : Int) := by omega
        have hBf : decide ((c2 : Int) < (n : Int)) = false := by rw [decide_eq_false_iff_not]; omega
        have hleast : Pl.Least (ltN nm) K n i c1 := by
          have h1 := HC1.out
          have h2 := HC2.out
          exact ⟨by omega, by omega, by omega, fun k k0 hk hp hne => by omega⟩
        have HL := Lib.hid hleast
        clear hleast
        obtain ⟨b2, hb2⟩ := hlt c1 i
        have C2 := LQ0.out c1 i hc1l hil
        rw [hb2] at C2
        have C2H := Lib.hid C2
        clear C2
        cases b2 with
        | false =>
          have F := fun b q => FIN.out b c1 q HL.out hb2
          have FH := Lib.hid F
          clear F hb2 hlt
          go_wp2_with fail
          refine C2H.out.mono ?_
          rintro e w' ⟨rfl, q', rfl⟩
          go_wp2_with fail
          go_ret
          exact FH.out _ _
        | true =>
          have F := fun q w' => STEP.out c1 q w' HL.out hb2
          have FH := Lib.hid F
          clear F hb2 hlt
          go_wp2_with fail
          refine C2H.out.mono ?_
          rintro e w' ⟨rfl, q', rfl⟩
          go_wp2_with fail
          refine (SQ.out q' i c1 hil hc1l).mono ?_
          rintro e w' ⟨rfl, hf, hq⟩
          go_wp2_with fail
          go_roundw
          case rel => exact FH.out _ _ hf hq
          case measure => have h1 := HC1.out; have h2 := HC2.out; simp [RowKit.intOf]; omega
end Go.Proofs.Ytnonncjndlcjgaa
