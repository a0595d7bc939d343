/- order.Stuck, the reference's Stuck. -/
import Derived.Test.YtnonncjndlcjgaaSort
namespace Go.Proofs.Ytnonncjndlcjgaa
open Go.RowKit
variable {w : World} {N : List (List Int)}

/-! ### slices.Contains -/
def idx (zs : List Int) (a : Int) : Int := if a ∈ zs then (zs.findIdx (fun x => x == a) : Nat) else -1
theorem idx_at (zs : List Int) (a : Int) (k : Nat) (hk : k < zs.length) (h : zs.getD k 0 = a) (hal : ∀ j, j < k → zs.getD j 0 ≠ a) : idx zs a = k := by
  have e : ∀ j, (hj : j < zs.length) → zs.getD j 0 = zs[j] := fun j hj => by simp [List.getD, List.getElem?_eq_getElem hj]
  have hm : a ∈ zs := by rw [← h, e k hk]; exact List.getElem_mem hk
  unfold idx
  rw [if_pos hm]
  have : zs.findIdx (fun x => x == a) = k := by
    rw [List.findIdx_eq hk]
    refine ⟨by rw [← e k hk, h]; simp, fun j hj => ?_⟩
    have := hal j hj
    rw [e j (by omega)] at this
    simpa using this
  rw [this]
theorem idx_none (zs : List Int) (a : Int) (h : ∀ j, j < zs.length → zs.getD j 0 ≠ a) : idx zs a = -1 := by
  unfold idx
  rw [if_neg]
  intro hm
  obtain ⟨j, hj, e⟩ := List.getElem_of_mem hm
  exact h j hj (by simpa [List.getD, List.getElem?_eq_getElem hj] using e)
theorem idx_dec (zs : List Int) (a : Int) : decide (0 ≤ idx zs a) = decide (a ∈ zs) := by
  unfold idx
  by_cases h : a ∈ zs <;> simp [h]

set_option maxHeartbeats 1000000 in
theorem index_any {p : Option Addr} {m c : Nat} {zs : List Int} (a : Int) (h : Ints w p m c zs) :
    Calls Try.prog 31 #[.slice p m c, .int .i64 a] w fun e w' => e = .returned (.int .i64 (idx zs a)) ∧ w = w' := by
  obtain ⟨hm, hmc, hcm, hcells⟩ := h
  have HC := Lib.hid hcells
  have HM := Lib.hid hm
  clear hcells hm
  go_enter Try.func31, Try.ntmps31
  go_wp2
  go_loop [8] (fun i => ∃ k : Nat, i = .int .i64 k ∧ k ≤ m ∧ ∀ j, j < k → zs.getD j 0 ≠ a) (fun i => m - (RowKit.intOf i).toNat)
  case atStart => exact ⟨0, rfl, Nat.zero_le _, fun j hj => absurd hj (by omega)⟩
  case round =>
    obtain ⟨k, rfl, hk, hal⟩ := hrel
    have HAL := Lib.hid hal
    clear hal
    by_cases hlt : k < m
    · have hcs := HC.out
      rcases hcs with h0 | ⟨b, off, rfl, hB, hcells⟩
      · omega
      have hcell := hcells k hlt
      obtain ⟨x, hx⟩ : ∃ x, zs.getD k 0 = x := ⟨_, rfl⟩
      rw [hx] at hcell
      have hi : (k : Int) < (m : Int) := by omega
      have HX := Lib.hid hx
      clear hcells hx
      by_cases he : a = x
      · have hb : (a == x) = true := by rw [beq_iff_eq]; exact he
        have hres := idx_at zs a k (by have := HM.out; omega) (by rw [HX.out, he]) HAL.out
        have HRES := Lib.hid hres
        clear hres he
        go_wp2
        go_ret
        exact ⟨ret_int (by rw [HRES.out]), rfl⟩
      · have hb : (a == x) = false := by rw [beq_eq_false_iff_ne]; exact he
        have HE := Lib.hid he
        clear he
        go_wp2
        go_round
        case rel => exact ⟨k + 1, by go_num, by omega, fun j hj => by
          rcases Nat.lt_succ_iff_lt_or_eq.1 hj with h | rfl
          · exact HAL.out j h
          · rw [HX.out]; exact fun e => HE.out e.symm⟩
        case measure => simp [RowKit.intOf]; omega
    · have e : k = m := by omega
      subst e
      have HRES := Lib.hid (idx_none zs a (fun j hj => HAL.out j (by have := HM.out; omega)))
      go_wp2
      go_ret
      exact ⟨ret_int (by rw [HRES.out]), rfl⟩

set_option maxHeartbeats 1000000 in
theorem contains_any {p : Option Addr} {m c : Nat} {zs : List Int} (a : Int) (h : Ints w p m c zs) :
    Calls Try.prog 22 #[.slice p m c, .int .i64 a] w fun e w' => e = .returned (.bool (decide (a ∈ zs))) ∧ w = w' := by
  have HI := Lib.hid (index_any a h)
  have hd := idx_dec zs a
  obtain ⟨X, hX⟩ : ∃ X, idx zs a = X := ⟨_, rfl⟩
  rw [hX] at hd HI
  have HD := Lib.hid hd
  clear h hX hd
  go_enter Try.func22, Try.ntmps22
  go_wp2_with (go_at_call 31; refine HI.out.mono ?_; rintro e w' ⟨rfl, rfl⟩)
  go_ret
  exact ⟨ret_bool (by rw [← HD.out]), rfl⟩

/-! ### 'out = append(out, i)' for those i that P takes -/
def Coll (wB : World) (P : Nat → Bool) (k : Nat) (v : Value) (wr : World) : Prop :=
  Below wB.heap.size wB wr ∧ wr.ownsRow wB.heap.size 3 1 v ((List.range k).filter P).length (intsV ((List.range k).filter P))

theorem Coll.start (wB : World) (P : Nat → Bool) : Coll wB P 0 (.slice none 0 0) wB := ⟨Below.refl _ _, World.ownsRow_nil _ _ _ _⟩
theorem Coll.drewN {wB : World} {P : Nat → Bool} {k : Nat} {v : Value} {wr : World} (h : Coll wB P k v wr) (q : Nat) : Coll wB P k v (wr.drewN q) :=
  ⟨⟨h.1.os, h.1.tape, h.1.output, h.1.size, h.1.block⟩, h.2⟩
theorem Coll.skip {wB : World} {P : Nat → Bool} {k : Nat} {v : Value} {wr : World} (h : Coll wB P k v wr) (hP : P k = false) : Coll wB P (k + 1) v wr := by
  have e : (List.range (k + 1)).filter P = (List.range k).filter P := by rw [List.range_succ, List.filter_append]; simp [hP]
  unfold Coll
  rw [e]
  exact h
theorem filt_len {P : Nat → Bool} {k : Nat} : ((List.range k).filter P).length ≤ k := by
  have := List.length_filter_le P (List.range k)
  simpa using this
theorem Coll.add {wB : World} {P : Nat → Bool} {k : Nat} {v : Value} {wr : World} (h : Coll wB P k v wr) (hP : P k = true) {F : List Nat} (hF : (List.range k).filter P = F) {o : Obj} {g cap : Nat} {w1 : World}
    (hown : w1.ownsRow wB.heap.size 3 1 (.slice (some ⟨g, 0, none⟩) (F.length + 1) cap) (F.length + 1) (intsV F ++ [.int .i64 (k : Nat)]))
    (hgrow : (wr.alloc o).grownBy w1 v.ownBlock) : Coll wB P (k + 1) (.slice (some ⟨g, 0, none⟩) (F.length + 1) cap) w1 := by
  subst hF
  have hsz := h.1.size
  refine ⟨(h.1.alloc hsz o).grown hgrow (by simp; omega) (fun b hb => (h.2.lt b hb).1), ?_⟩
  have e : (List.range (k + 1)).filter P = (List.range k).filter P ++ [k] := by rw [List.range_succ, List.filter_append]; simp [hP]
  rw [e, List.length_append]
  have e2 : intsV ((List.range k).filter P ++ [k]) = intsV ((List.range k).filter P) ++ [.int .i64 (k : Nat)] := by simp [intsV]
  rw [e2]
  exact hown

/-! ### Stuck -/
/-- no thing has a name -/
def nm0 : Nat → ByteArray := fun _ => ByteArray.empty
def StuckSpec (N : List (List Int)) (R : List Nat) (c : Int) : Prop :=
  (rightB N = false ∧ R = [] ∧ c = 3) ∨ (rightB N = true ∧ c = 0 ∧ ∃ L, Pl.Done (ltN nm0) (natM N) L ∧ R = (List.range N.length).filter (fun j => decide (j ∉ L)))
theorem StuckSpec.unique {R R' : List Nat} {c c' : Int} (h : StuckSpec N R c) (k : StuckSpec N R' c') : R = R' ∧ c = c' := by
  rcases h with ⟨h1, rfl, rfl⟩ | ⟨h1, rfl, L, hL, rfl⟩ <;> rcases k with ⟨k1, rfl, rfl⟩ | ⟨k1, rfl, K, hK, rfl⟩
  · exact ⟨rfl, rfl⟩
  · rw [h1] at k1; cases k1
  · rw [h1] at k1; cases k1
  · have e := Pl.Done.unique (ltN_so nm0) hL hK
    subst e
    exact ⟨rfl, rfl⟩
def StuckPost (N : List (List Int)) (w : World) (e : Ending) (w' : World) : Prop :=
  Below w.heap.size w w' ∧ ∃ R c v, StuckSpec N R c ∧ e = .returned (.tuple #[v, .int .i64 c]) ∧ w'.ownsRow w.heap.size 3 1 v R.length (intsV R)

theorem Try.info9 : (Try.prog.info? 9).map (fun i => (i.zero, i.size, i.bytes)) = some (some (.string ByteArray.empty), 1, 16) := by kernel_rfl

theorem names_made (w : World) (n : Nat) : n = 0 ∨ ∃ b off, (some ⟨w.heap.size, 0, none⟩ : Option Addr) = some ⟨b, off, none⟩ ∧ b < (w.alloc (.cells (madeCells #[.string ByteArray.empty] n) 9)).heap.size ∧ ∀ j, j < n → (w.alloc (.cells (madeCells #[.string ByteArray.empty] n) 9)).cell? ⟨b, off + j, none⟩ = some (.string (nm0 j)) := by
  have hr := World.rowIs_made w (.string ByteArray.empty) n 9
  exact Or.inr ⟨w.heap.size, 0, rfl, hr.lt, fun j hj => by rw [Nat.zero_add]; exact hr.cell hj⟩

set_option maxHeartbeats 2000000 in
theorem stuck_any {pn : Option Addr} {n cn : Nat} (hneeds : Needs w pn n cn N) (hsz : n + Pl.szs (natM N) n ≤ 1000000) :
    Calls Try.prog 15 #[.slice pn n cn] w (StuckPost N w) := by
  have hn := hneeds.1
  obtain ⟨r, hr⟩ : ∃ r, rightB N = r := ⟨_, rfl⟩
  have C1 := oright_any hneeds
  rw [hr] at C1
  have RC := Lib.hid C1
  cases r with
  | false =>
    have SP : Hid (StuckSpec N [] 3) := Lib.hid (Or.inl ⟨hr, rfl, rfl⟩)
    clear hneeds hn hr C1 hsz
    go_enter Try.func15, Try.ntmps15
    go_wp2_with (go_at_call 19; refine RC.out.mono ?_; rintro e w1 ⟨rfl, hb1⟩)
    go_ret2
    exact ⟨hb1, [], 3, _, SP.out, rfl, World.ownsRow_nil _ _ _ _⟩
  | true =>
    have hn6 : n ≤ 1000000 := by omega
    have hmk := run_make_row' (P := Try.prog) 22 9 (.string ByteArray.empty) 16 Try.underlying22 Try.info9 rfl .i64 .i64 n (by omega) (by omega)
    have HL : Hid (∀ w1, Below w.heap.size w w1 → Calls Try.prog 20 #[.slice (some ⟨w1.heap.size, 0, none⟩) n n, .slice pn n cn] (w1.alloc (.cells (madeCells #[.string ByteArray.empty] n) 9)) (LayPost nm0 (natM N) (w1.alloc (.cells (madeCells #[.string ByteArray.empty] n) 9)))) := Lib.hid fun w1 hb =>
      lay_any (needsN_of (hneeds.below (hb.alloc hb.size _)) hr) (Nat.le_refl _) (by omega) (names_made w1 n) (natM_in hr) (by rw [natM_length, ← hn]; exact hsz)
    obtain ⟨i3, hi3, hz30, hz31, hz32⟩ := info_parts Try.info3
    have HI := Lib.hid hi3
    have HZ0 := Lib.hid hz30
    have HZ1 := Lib.hid hz31
    have HZ2 := Lib.hid hz32
    have HR := Lib.hid hr
    have HN := Lib.hid hn
    have hnc := hneeds.2.1
    have hcm := hneeds.2.2.1
    clear hi3 hz30 hz31 hz32 hneeds hn hr C1 hsz
    go_enter Try.func15, Try.ntmps15
    go_wp2_with (go_at_call 19; refine RC.out.mono ?_; rintro e w1 ⟨rfl, hb1⟩)
    refine (HL.out _ hb1).mono ?_
    rintro e w2 ⟨hb2, L, v, rfl, hd, hown⟩
    have HB : Hid (Below w.heap.size w w2) := Lib.hid ((hb1.alloc hb1.size _).trans (hb2.mono (by have := hb1.size; simp; omega)))
    obtain ⟨p, c, hv, hi⟩ := ints_of_own hown
    subst hv
    obtain ⟨m, hm⟩ : ∃ m, L.length = m := ⟨_, rfl⟩
    rw [hm] at hi ⊢
    have HIN := Lib.hid hi
    have HD := Lib.hid hd
    have C0 := Lib.hid (Coll.start w2 (fun j => decide (j ∉ L)))
    clear hb1 hb2 hown hd hi hm hmk
    go_wp2
    go_loopw [5, 17] (fun sv i wr => ∃ (k : Nat) (v : Value), v = sv ∧ i = .int .i64 k ∧ k ≤ n ∧ Coll w2 (fun j => decide (j ∉ L)) k v wr) (fun _ i _ => n - (RowKit.intOf i).toNat)
    case atStart => exact ⟨0, _, rfl, rfl, Nat.zero_le _, C0.out⟩
    case round =>
      obtain ⟨k, v, rfl, rfl, hk, hcol⟩ := hrel
      obtain ⟨wo, hwo⟩ : ∃ wo : World, wo = wr := ⟨_, rfl⟩
      subst hwo
      by_cases hlt : k < n
      · have CT := contains_any (w := wo) (k : Nat) (HIN.out.below hcol.1)
        have ed : decide (((k : Nat) : Int) ∈ L.map Int.ofNat) = decide (k ∈ L) := by
          rw [decide_eq_decide]
          constructor
          · intro h; obtain ⟨y, hy, e⟩ := List.mem_map.1 h; have : y = k := Int.ofNat.inj e; subst this; exact hy
          · intro h; exact List.mem_map.2 ⟨k, h, rfl⟩
        rw [ed] at CT
        by_cases hkL : k ∈ L
        · rw [decide_eq_true hkL] at CT
          have HCT := Lib.hid CT
          have NX := Lib.hid (hcol.skip (by simp [hkL]))
          clear CT ed hcol hkL
          go_wp2_with (go_at_call 22; refine HCT.out.mono ?_; rintro e w' ⟨rfl, rfl⟩)
          go_roundw
          case rel => exact ⟨k + 1, v, rfl, by go_num, by omega, NX.out⟩
          case measure => simp [RowKit.intOf]; omega
        · rw [decide_eq_false hkL] at CT
          have HCT := Lib.hid CT
          obtain ⟨F, hF⟩ : ∃ F, (List.range k).filter (fun j => decide (j ∉ L)) = F := ⟨_, rfl⟩
          have hFl : F.length ≤ k := by rw [← hF]; exact filt_len
          have OUT : Hid (wo.ownsRow w2.heap.size 3 1 v F.length (intsV F)) := Lib.hid (by rw [← hF]; exact hcol.2)
          have ADD := Lib.hid fun (g cap : Nat) (w4 : World) (o : Obj) hown hgrow => hcol.add (by simp [hkL]) hF (o := o) (g := g) (cap := cap) (w1 := w4) hown hgrow
          have hsz2 : w2.heap.size ≤ wo.heap.size := hcol.1.size
          clear CT ed hcol hkL hF
          go_wp2_with (first | (go_at_call 22; refine HCT.out.mono ?_; rintro e w' ⟨rfl, rfl⟩) | (at_builtin; refine wpList_append_lies _ rfl (.tmp 24) (.tmp 26) 26 rfl w2.heap.size 3 i3 (.int .i64 0) 1 8 Try.underlying26 HI.out HZ0.out HZ1.out HZ2.out rfl (by decide) v F.length (intsV F) rfl (OUT.out.alloc _) ⟨wo.heap.size, 0, none⟩ 1 1 [.int .i64 (k : Nat)] rfl rfl (cell_one_new _ _ _) (by intro u hu; simp at hu; subst hu; rfl) (by decide) (by unfold maxLen; omega) (by omega) (by simp; omega) _ rfl ?_; intro g cap w4 hown hgrow hat hlt3; have R := Lib.hid (ADD.out _ _ _ _ hown hgrow); clear hown hgrow hat))
          go_roundw
          case rel => exact ⟨k + 1, _, rfl, by go_num, by omega, R.out⟩
          case measure => simp [RowKit.intOf]; omega
      · have ek : k = n := by omega
        subst ek
        have HCOL := Lib.hid hcol
        clear hcol
        go_wp2
        go_ret2
        refine ⟨HB.out.trans (HCOL.out.1.mono HB.out.size), _, 0, v, Or.inr ⟨HR.out, rfl, L, HD.out, rfl⟩, rfl, ?_⟩
        rw [← HN.out]
        exact HCOL.out.2.mono HB.out.size
end Go.Proofs.Ytnonncjndlcjgaa
