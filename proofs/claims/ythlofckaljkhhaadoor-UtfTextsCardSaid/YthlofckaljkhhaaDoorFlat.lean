/- Characters, put one behind the other: the plain law. -/
import Derived.Test.YthlofckaljkhhaaDoorApp
namespace Go.Proofs.YthlofckaljkhhaaDoor
open Go.RowKit Go.Lib

def flat (F : List Int) : List UInt8 := F.flatMap putL
theorem flat_cons (c : Int) (F : List Int) : flat (c :: F) = putL c ++ flat F := by simp [flat]
theorem flat_snoc (F : List Int) (c : Int) : flat (F ++ [c]) = flat F ++ putL c := by simp [flat]
theorem flat_le : ∀ F : List Int, (flat F).length ≤ 4 * F.length
  | [] => by simp [flat]
  | c :: F => by
    have h1 := flat_le F
    have h2 := putZ_pos c
    rw [flat_cons, List.length_append, putL_length, List.length_cons]
    omega

theorem mid_get {c : Int} (h : fineB c = true) (pre r : List UInt8) (j : Nat) (hj : j < (putZ c).length) :
    (((⟨(pre ++ (putL c ++ r)).toArray⟩ : ByteArray).get! (pre.length + j)).toNat : Int) = (putZ c).getD j 0 := by
  have hl : j < (putL c).length := by rw [putL_length]; exact hj
  rw [get!_of_list _ _ (by simp only [List.length_append]; omega), List.getElem_append_right (by omega)]
  simp only [Nat.add_sub_cancel_left]
  rw [List.getElem_append_left hl]
  have e2 := putS_get h j hj
  unfold putS at e2
  rw [get!_of_list _ j hl] at e2
  rw [e2]
  simp [List.getD, List.getElem?_eq_getElem hj]
theorem mid_size (c : Int) (pre r : List UInt8) : pre.length + (putZ c).length ≤ (⟨(pre ++ (putL c ++ r)).toArray⟩ : ByteArray).size := by
  show _ ≤ (pre ++ (putL c ++ r)).length
  simp only [List.length_append, putL_length]
  omega

theorem mid_decode {c : Int} (h : fineB c = true) (pre r : List UInt8) : Utf8.decode ⟨(pre ++ (putL c ++ r)).toArray⟩ pre.length = (c.toNat, (putZ c).length) :=
  decode_put h _ pre.length (mid_size c pre r) (mid_get h pre r)

theorem badOn_flat : ∀ (F : List Int) (pre r : List UInt8), (∀ c ∈ F, fineB c = true) →
    badOn ⟨(pre ++ (flat F ++ r)).toArray⟩ pre.length = badOn ⟨(pre ++ (flat F ++ r)).toArray⟩ (pre.length + (flat F).length)
  | [], pre, r, _ => by simp [flat]
  | c :: F, pre, r, hF => by
    have hc := hF c (List.mem_cons_self ..)
    have e : pre ++ (flat (c :: F) ++ r) = pre ++ (putL c ++ (flat F ++ r)) := by rw [flat_cons, List.append_assoc]
    have e2 : pre ++ (putL c ++ (flat F ++ r)) = (pre ++ putL c) ++ (flat F ++ r) := by rw [List.append_assoc]
    have h1 := badOn_put hc ⟨(pre ++ (putL c ++ (flat F ++ r))).toArray⟩ pre.length (mid_size c pre _) (mid_get hc pre _)
    have h2 := badOn_flat F (pre ++ putL c) r (fun x hx => hF x (List.mem_cons_of_mem _ hx))
    rw [List.length_append, putL_length, ← e2] at h2
    rw [e, h1, h2, flat_cons, List.length_append, putL_length, Nat.add_assoc]

theorem badAt_flat (F : List Int) (hF : ∀ c ∈ F, fineB c = true) : badAt ⟨(flat F).toArray⟩ = (flat F).length ∧ errAt ⟨(flat F).toArray⟩ = 0 := by
  have h := badOn_flat F [] [] hF
  simp only [List.nil_append, List.append_nil, List.length_nil, Nat.zero_add] at h
  have hs : (⟨(flat F).toArray⟩ : ByteArray).size = (flat F).length := rfl
  have h1 : badAt ⟨(flat F).toArray⟩ = (flat F).length := by
    rw [badAt_on, h, badOn_end _ _ (by rw [hs]; omega)]
  exact ⟨h1, by unfold errAt; rw [h1, hs, if_neg (by omega)]⟩

/-- a byte that can't be is told -/
theorem badAt_wrong (F : List Int) (hF : ∀ c ∈ F, fineB c = true) (x : UInt8) (hx : 248 ≤ x.toNat) :
    badAt ⟨(flat F ++ [x, 97]).toArray⟩ = (flat F).length ∧ errAt ⟨(flat F ++ [x, 97]).toArray⟩ = 4 := by
  have h := badOn_flat F [] [x, 97] hF
  simp only [List.nil_append, List.length_nil, Nat.zero_add] at h
  have hs : (⟨(flat F ++ [x, 97]).toArray⟩ : ByteArray).size = (flat F).length + 2 := by
    show (flat F ++ [x, 97]).length = _
    simp
  have hg : (⟨(flat F ++ [x, 97]).toArray⟩ : ByteArray).get! (flat F).length = x := by
    rw [get!_of_list _ _ (by simp), List.getElem_append_right (by omega)]
    simp
  have hb : goodD (Utf8.decode ⟨(flat F ++ [x, 97]).toArray⟩ (flat F).length) = false := by
    rw [decode_at, hg, dec_out _ _ _ _ _ (Or.inr hx) x.toNat_lt]
    decide
  have h1 : badAt ⟨(flat F ++ [x, 97]).toArray⟩ = (flat F).length := by
    rw [badAt_on, h, badOn_bad _ _ (by rw [hs]; omega) hb]
  exact ⟨h1, by unfold errAt; rw [h1, hs, if_pos (by omega)]⟩

/-- the characters that may be, of the first k -/
def fines (zs : List Int) (k : Nat) : List Int := (zs.take k).filter fineB
theorem fines_all (zs : List Int) (k : Nat) : ∀ c ∈ fines zs k, fineB c = true := fun _ hc => (List.mem_filter.1 hc).2
theorem fines_le (zs : List Int) (k : Nat) : (fines zs k).length ≤ k := by
  have h1 := List.length_filter_le fineB (zs.take k)
  have h2 := List.length_take_le k zs
  unfold fines; omega
theorem fines_yes (zs : List Int) (k : Nat) (hk : k < zs.length) (h : fineB (zs.getD k 0) = true) : fines zs (k + 1) = fines zs k ++ [zs.getD k 0] := by
  have e : zs.getD k 0 = zs[k] := by simp [List.getD, List.getElem?_eq_getElem hk]
  rw [e] at h ⊢
  unfold fines
  rw [List.take_succ_eq_append_getElem hk, List.filter_append]
  congr 1
  rw [List.filter_cons, if_pos h, List.filter_nil]
theorem fines_no (zs : List Int) (k : Nat) (hk : k < zs.length) (h : fineB (zs.getD k 0) = false) : fines zs (k + 1) = fines zs k := by
  have e : zs.getD k 0 = zs[k] := by simp [List.getD, List.getElem?_eq_getElem hk]
  rw [e] at h
  unfold fines
  rw [List.take_succ_eq_append_getElem hk, List.filter_append, List.filter_cons, if_neg (by rw [h]; decide), List.filter_nil, List.append_nil]

theorem flat_split (F : List Int) (j : Nat) (hj : j < F.length) : flat F = flat (F.take j) ++ (putL (F.getD j 0) ++ flat (F.drop (j + 1))) := by
  have e : F.getD j 0 = F[j] := by simp [List.getD, List.getElem?_eq_getElem hj]
  rw [e]
  have h : F = F.take j ++ F[j] :: F.drop (j + 1) := by
    rw [List.getElem_cons_drop, List.take_append_drop]
  have h2 : flat F = flat (F.take j ++ F[j] :: F.drop (j + 1)) := congrArg flat h
  rw [h2]
  unfold flat
  rw [List.flatMap_append, List.flatMap_cons]
theorem flat_next (F : List Int) (j : Nat) (hj : j < F.length) : (flat (F.take (j + 1))).length = (flat (F.take j)).length + (putZ (F.getD j 0)).length := by
  have e : F.getD j 0 = F[j] := by simp [List.getD, List.getElem?_eq_getElem hj]
  rw [List.take_succ_eq_append_getElem hj, flat_snoc, List.length_append, putL_length, e]
theorem flat_all (F : List Int) : (flat (F.take F.length)).length = (flat F).length := by rw [List.take_length]
end Go.Proofs.YthlofckaljkhhaaDoor
