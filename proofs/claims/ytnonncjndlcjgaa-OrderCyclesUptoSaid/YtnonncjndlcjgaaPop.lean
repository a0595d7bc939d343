/- The queue's Pop, and container/heap's. -/
import Derived.Test.YtnonncjndlcjgaaPush
import Derived.WalkSmall
namespace Go.Proofs.Ytnonncjndlcjgaa
open Go.RowKit
variable {nm : Nat → ByteArray} {B : Nat} {w : World} {qa : Nat} {H : List Nat} {v : Value}

/-- a thing as a value -/
def thing (nm : Nat → ByteArray) (x : Nat) : Value := .agg #[.string (nm x), .int .i64 (x : Nat)]

def QPopPost (nm : Nat → ByteArray) (B : Nat) (w : World) (qa : Nat) (H : List Nat) (x : Nat) (e : Ending) (w' : World) : Prop :=
  e = .returned (.iface 58 (.agg #[.string (nm x), .int .i64 (x : Nat)])) ∧ Fr (QT B) w w' ∧ ∃ v', QAt nm B w' qa H v'

set_option maxHeartbeats 2000000 in
theorem qpop_any (x : Nat) (hq : QAt nm B w qa (H ++ [x]) v) (_hlen : H.length ≤ 1099511627776) :
    Calls Try.prog 54 #[.pointer (some ⟨qa, 0, none⟩)] w (QPopPost nm B w qa H x) := by
  obtain ⟨g, cap, cur, hv, hB, hne, hg, hcl, hcm⟩ := hq.form (by simp)
  have hl : (H ++ [x]).length = H.length + 1 := by simp
  rw [hl] at hv hcl
  obtain ⟨n, hn⟩ : ∃ n, H.length = n := ⟨_, rfl⟩
  rw [hn] at hv hcl
  have hc := hq.cell
  have hf := hq.free
  have hgx : (H ++ [x]).getD n 0 = x := by rw [← hn]; simp [List.getD]
  have hx := hq.name (cap := cap) (by rw [hv, hl, hn]) (j := n) (by rw [hl]; omega)
  rw [hgx] at hx
  obtain ⟨hx1, hx2⟩ := hx
  have HQ := Lib.hid hq
  have hlt := hq.lt
  subst hv
  have HN := Lib.hid hn
  have HG := Lib.hid hg
  have HX := Lib.hid hgx
  clear hq hn hg hl hgx
  go_enter Try.func54, Try.ntmps54
  go_wp2
  go_ret
  have hq := HQ.out
  have hl := HN.out
  have f1 : Fr (QT B) w (w.setCell ⟨qa, 0, none⟩ (.slice (some ⟨g, 0, none⟩) n cap)) := (Fr.refl w).setCell _ _ (fun o ho => by rw [hq.box] at ho; cases ho; exact ⟨hq.old, Or.inl rfl⟩)
  have hrow := hq.row
  rw [List.length_append, hl, flat_append] at hrow
  have hrow2 : (w.setCell ⟨qa, 0, none⟩ (.slice (some ⟨g, 0, none⟩) n cap)).ownsRow B 58 2 (.slice (some ⟨g, 0, none⟩) (n + 1) cap) (n + 1) (flat nm H ++ flat nm [x]) :=
    hrow.kept (row := some qa) ⟨rfl, rfl, rfl, by simp [World.setCell], fun k _ hk => heap_setCell_other w _ k _ (fun e => hk (by rw [e]))⟩ (Or.inr (by show some g ≠ some qa; simpa using hne))
  have hrow3 := ownsRow_pop (by rw [flat_length, hl]) hrow2
  refine ⟨rfl, f1.alloc _, .slice (some ⟨g, 0, none⟩) n cap, hq.old, ?_, ?_⟩
  · have h2 := heap_setCell_same w qa 0 _ _ (.slice (some ⟨g, 0, none⟩) n cap) hq.box
    rw [Below.heap_alloc _ _ _ (by simpa using hlt), h2]
    rfl
  · rw [hl]
    exact hrow3.alloc _

/-- what a pop of the heap leaves -/
def HPopPost (nm : Nat → ByteArray) (B : Nat) (w : World) (qa : Nat) (H : List Nat) (e : Ending) (w' : World) : Prop :=
  e = .returned (.iface 58 (.agg #[.string (nm (H.getD 0 0)), .int .i64 (H.getD 0 0 : Nat)])) ∧ Fr (QT B) w w' ∧ ∃ v' H', QAt nm B w' qa H' v' ∧ (H.getD 0 0 :: H').Perm H ∧ Pl.HeapTo (ltN nm) H' H'.length

theorem split_last (K : List Nat) (n : Nat) (h : K.length = n + 1) : K = K.take n ++ [K.getD n 0] := by
  have h1 : K.take (n + 1) = K := List.take_of_length_le (by omega)
  have h2 : K.getD n 0 = K[n] := by simp [List.getD, List.getElem?_eq_getElem (show n < K.length by omega)]
  have h3 := List.take_succ_eq_append_getElem (l := K) (i := n) (by omega)
  rw [h1] at h3
  rw [h2]
  exact h3

theorem take_getD (K : List Nat) (n k : Nat) (h : k < n) : (K.take n).getD k 0 = K.getD k 0 := by
  simp [List.getD, h]

set_option maxHeartbeats 2000000 in
theorem hpop_any (hq : QAt nm B w qa H v) (h0 : 0 < H.length) (hlen : H.length ≤ 1099511627776) (hh : Pl.HeapTo (ltN nm) H H.length) :
    Calls Try.prog 29 #[.iface 53 (.pointer (some ⟨qa, 0, none⟩))] w (HPopPost nm B w qa H) := by
  obtain ⟨n, hn⟩ : ∃ n, H.length = n + 1 := ⟨H.length - 1, by omega⟩
  obtain ⟨g, cap, cur, hv, _⟩ := hq.form h0
  rw [hn] at hv
  have hm1 := method_len ⟨qa, 0, none⟩ v w hq.cell
  have hm2 := method_swap ⟨qa, 0, none⟩ v w hq.cell
  have L := Lib.hid (len_any (some ⟨g, 0, none⟩) (n + 1) cap w)
  have S := Lib.hid (swap_q hq (i := 0) (k := n) (by omega) (by omega))
  have D := Lib.hid fun (w1 : World) (h : QAt nm B w1 qa (Pl.sw H 0 n) v) => down_any h (by simp; omega) n (by simp; omega) (Pl.dn_start hn hh)
  have hm3 := fun w => method_pop ⟨qa, 0, none⟩ w
  obtain ⟨x, hx⟩ : ∃ x, H.getD 0 0 = x := ⟨_, rfl⟩
  have hsx : (Pl.sw H 0 n).getD n 0 = x := by rw [Pl.sw_getD H 0 n n (by omega) (by omega), if_pos rfl, hx]
  have HSX := Lib.hid hsx
  have HX := Lib.hid hx
  have HE : Hid (Ending.returned (.iface 58 (.agg #[.string (nm x), .int .i64 (x : Nat)])) = Ending.returned (.iface 58 (.agg #[.string (nm (H.getD 0 0)), .int .i64 (H.getD 0 0 : Nat)]))) := Lib.hid (by rw [hx])
  have HN := Lib.hid hn
  have HSP := Lib.hid (Pl.sw_perm H 0 n (by omega) (by omega))
  have hn40 : n ≤ 1099511627775 := by omega
  have HSL : Hid ((Pl.sw H 0 n).length = n + 1) := Lib.hid (by simpa using hn)
  subst hv
  clear hq h0 hh hlen hn hx hsx
  go_enter Try.func29, Try.ntmps29
  go_wp2_with fail
  refine L.out.mono ?_
  rintro e w2 ⟨rfl, rfl⟩
  go_wp2_with fail
  refine S.out.mono ?_
  rintro e w1 ⟨rfl, hf1, hq1⟩
  have HF1 := Lib.hid hf1
  have HQ1 := Lib.hid hq1
  clear hf1 hq1
  go_wp2_with fail
  refine (D.out _ HQ1.out).mono ?_
  rintro e w2 ⟨⟨b, rfl⟩, hf2, K, hq2, hp2, hrest, hh2⟩
  have HF2 := Lib.hid hf2
  have hKl : K.length = n + 1 := hp2.length_eq.trans HSL.out
  have hKs := split_last K n hKl
  have hKx : K.getD n 0 = x := (hrest n (Nat.le_refl _)).trans HSX.out
  rw [hKx] at hKs
  have hPK : (x :: K.take n).Perm H := by
    have h1 : (K.take n ++ [x]).Perm H := by rw [← hKs]; exact hp2.trans HSP.out
    exact (List.perm_append_comm (l₁ := [x]) (l₂ := K.take n)).trans h1
  have hHK : Pl.HeapTo (ltN nm) (K.take n) (K.take n).length := by
    intro k k0 hk
    have hk' : k < n := by simp at hk; omega
    rw [take_getD K n k hk', take_getD K n _ (by omega)]
    exact hh2 k k0 hk'
  have HPK := Lib.hid hPK
  have HHK := Lib.hid hHK
  rw [hKs] at hq2
  have P := Lib.hid (qpop_any x hq2 (by simp; omega))
  clear hf2 hq2 hp2 hrest hh2 hKs hKx hPK hHK hKl
  go_wp2_with fail
  refine P.out.mono ?_
  rintro e w3 ⟨rfl, hf3, v3, hq3⟩
  go_wp2_with fail
  go_ret
  exact ⟨HE.out, (HF1.out.trans HF2.out).trans hf3, v3, K.take n, hq3, by rw [HX.out]; exact HPK.out, HHK.out⟩
end Go.Proofs.Ytnonncjndlcjgaa
