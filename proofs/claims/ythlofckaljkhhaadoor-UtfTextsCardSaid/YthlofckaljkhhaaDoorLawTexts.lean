/- UtfTexts: characters, put one behind the other, are read one by one; the law's walk: it returns true. -/
import Derived.Test.YthlofckaljkhhaaDoorFlat
import Derived.WalkLawsBesides
namespace Go.Proofs.YthlofckaljkhhaaDoor
open Go.RowKit Go.Lib

/-- a slice of int in memory, nil too: its elements -/
def Ints (w : World) (p : Option Addr) (n cap : Nat) (zs : List Int) : Prop :=
  n = zs.length ∧ n ≤ cap ∧ cap ≤ 9223372036854775807 ∧ (n = 0 ∨ ∃ b off, p = some ⟨b, off, none⟩ ∧ b < w.heap.size ∧ ∀ j, j < n → w.cell? ⟨b, off + j, none⟩ = some (.int .i64 (zs.getD j 0)))

theorem info3 : (Tryd.prog.info? 3).map (fun i => (i.zero, i.size, i.bytes)) = some (some (.int .i64 0), 1, 8) := by kernel_rfl

theorem own_below {w w' : World} {B e size n : Nat} {v : Value} {xs : List Value} (h : w.ownsRow B e size v n xs) (hb : Below w.heap.size w w') : w'.ownsRow B e size v n xs := by
  refine ⟨h.1, ?_⟩
  rcases h.2 with hn | ⟨g, cap, cur, rfl, hbg, hgg, rest⟩
  · exact .inl hn
  · exact .inr ⟨g, cap, cur, rfl, hbg, (hb.block g (Array.getElem?_eq_some_iff.1 hgg).1).trans hgg, rest⟩

/-- two rows of other elements lie apart -/
theorem own_apart {w : World} {B B' size size' n n' : Nat} {v v' : Value} {xs xs' : List Value} (h : w.ownsRow B 5 size v n xs) (h' : w.ownsRow B' 3 size' v' n' xs') : v'.ownBlock = none ∨ v'.ownBlock ≠ v.ownBlock := by
  rcases h'.2 with ⟨rfl, _⟩ | ⟨g', cap', cur', rfl, _, hg', _⟩
  · exact Or.inl rfl
  · rcases h.2 with ⟨rfl, _⟩ | ⟨g, cap, cur, rfl, _, hg, _⟩
    · exact Or.inr (by simp [Value.ownBlock])
    · refine Or.inr ?_
      simp only [Value.ownBlock, ne_eq, Option.some.injEq]
      rintro rfl
      rw [hg] at hg'
      cases hg'

/-- a round that puts one on: both appends' runs -/
theorem texts_step (w : World) (B : Nat) (v v' : Value) (l : List UInt8) (xs : List Int) (c : Int) (g d : Nat) (hB : B ≤ w.heap.size) (ho : w.ownsRow B 5 1 v l.length (bc l)) (ho' : w.ownsRow B 3 1 v' xs.length (xs.map (Value.int .i64)))
    (hP : Byt w (some ⟨g, 0, none⟩) (putZ c).length d (putS c)) (hl : l.length ≤ 1000) (hx : xs.length ≤ 1000) :
    ∃ v1 w1 v2 w2, (Builtin.append_ #[22, 22] 22 #[v, .slice (some ⟨g, 0, none⟩) (putZ c).length d]).run Tryd.prog w = .ok v1 w1 ∧
      (Builtin.append_ #[37, 37] 37 #[v', .slice (some ⟨w1.heap.size, 0, none⟩) 1 1]).run Tryd.prog (w1.alloc (.cells #[.int .i64 c] 3)) = .ok v2 w2 ∧
      w2.ownsRow B 5 1 v1 (l ++ putL c).length (bc (l ++ putL c)) ∧ w2.ownsRow B 3 1 v2 (xs ++ [c]).length ((xs ++ [c]).map (Value.int .i64)) ∧ Below B w w2 := by
  have hpp := putZ_pos c
  obtain ⟨v1, w1, h1, ho1, hg1⟩ := app_run w B v l.length l ho (some ⟨g, 0, none⟩) (putZ c).length d (putS c) hP hB (by omega)
  have hb1 : Below B w w1 := (Below.refl _ _).grown hg1 hB (fun k hk => (ho.lt k hk).1)
  have ho1' : w1.ownsRow B 3 1 v' xs.length (xs.map (Value.int .i64)) := ho'.kept hg1 (own_apart ho ho')
  have e1 : (putS c).data.toList = putL c := rfl
  rw [e1] at ho1
  have e2 : l.length + (putZ c).length = (l ++ putL c).length := by rw [List.length_append, putL_length]
  rw [e2] at ho1
  obtain ⟨i, hi, hz, hsz, hby⟩ := info_parts info3
  obtain ⟨v2, w2, h2, ho2, hg2, _⟩ := run_append_own (P := Tryd.prog) (w1.alloc (.cells #[.int .i64 c] 3)) B 37 37 3 i (.int .i64 0) 1 8 Tryd.underlying37 hi hz hsz hby rfl (by decide) v' xs.length (xs.map (Value.int .i64)) (ho1'.alloc _)
    ⟨w1.heap.size, 0, none⟩ 1 1 [.int .i64 c] rfl
    (fun j u hj => by
      match j, hj with
      | 0, hj =>
        simp at hj
        subst hj
        rw [addr_add]
        exact World.cell?_alloc_new w1 _ 3 0
      | j + 1, hj => simp at hj)
    (fun u hu => by simp at hu; subst hu; rfl) (by unfold maxLen; omega) (by omega) (by have := hb1.size; simp; omega)
  have hb2 : Below B w w2 := (hb1.alloc (by have := hb1.size; omega) _).grown hg2 (by have := hb1.size; simp; omega) (fun k hk => (ho1'.lt k hk).1)
  have ho3 : w2.ownsRow B 5 1 v1 (l ++ putL c).length (bc (l ++ putL c)) := by
    refine (ho1.alloc _).kept hg2 ?_
    rcases own_apart (ho1.alloc (.cells #[.int .i64 c] 3)) (ho1'.alloc _) with h | h
    · cases hv : v1.ownBlock with
      | none => exact Or.inl rfl
      | some k => exact Or.inr (by rw [h]; simp)
    · exact Or.inr (fun e => h e.symm)
  refine ⟨v1, w1, v2, w2, h1, h2, ho3, ?_, hb2⟩
  simpa using ho2


/-- the ints that a slice of the call's own holds -/
theorem own_ints {w : World} {B n : Nat} {p : Option Addr} {c : Nat} {F : List Int} (h : w.ownsRow B 3 1 (.slice p n c) F.length (F.map (Value.int .i64))) :
    (p = none ∧ n = 0 ∧ c = 0 ∧ F = []) ∨ ∃ g, p = some ⟨g, 0, none⟩ ∧ n = F.length ∧ n ≤ c ∧ c ≤ 9223372036854775807 ∧ g < w.heap.size ∧ ∀ j, j < F.length → w.cell? ⟨g, 0 + j, none⟩ = some (.int .i64 (F.getD j 0)) := by
  rcases h.2 with ⟨hv, h0⟩ | ⟨g, cap, cur, hv, _, hg, hn, hm, _, ht⟩
  · cases hv
    exact Or.inl ⟨rfl, rfl, rfl, List.eq_nil_of_length_eq_zero h0⟩
  · cases hv
    unfold maxLen at hm
    refine Or.inr ⟨g, rfl, rfl, hn, hm, (Array.getElem?_eq_some_iff.1 hg).1, fun j hj => ?_⟩
    rw [Nat.zero_add, cell_of_row w g j cur 3 (0, 0) hg]
    have e := congrArg (·[j]?) ht
    simp only [Nat.mul_one, List.getElem?_take, hj, if_true, List.getElem?_map, List.getElem?_eq_getElem hj, Option.map_some, Array.getElem?_toList] at e
    rw [e]
    simp [List.getD, List.getElem?_eq_getElem hj]

theorem own_slice {w : World} {B e n : Nat} {v : Value} {xs : List Value} (h : w.ownsRow B e 1 v n xs) : ∃ p c, v = .slice p n c := by
  rcases h.2 with ⟨rfl, rfl⟩ | ⟨g, cap, cur, rfl, _⟩
  · exact ⟨none, 0, rfl⟩
  · exact ⟨_, _, rfl⟩

theorem slice_eq {p : Option Addr} {n n' c : Nat} (h : n = n') : Value.slice p n c = Value.slice p n' c := by rw [h]

/-- what stands at a round's head -/
def TextsAt (B : Nat) (w wr : World) (L : List UInt8) (F : List Int) (p5 p6 : Option Addr) (c5 c6 : Nat) : Prop :=
  wr.ownsRow B 5 1 (.slice p5 L.length c5) L.length (bc L) ∧ wr.ownsRow B 3 1 (.slice p6 F.length c6) F.length (F.map (Value.int .i64)) ∧ Below B w wr

theorem TextsAt.byt {B : Nat} {w wr : World} {L : List UInt8} {F : List Int} {p5 p6 : Option Addr} {c5 c6 : Nat} (h : TextsAt B w wr L F p5 p6 c5 c6) : Byt wr p5 L.length c5 ⟨L.toArray⟩ := by
  obtain ⟨p, c, hv, hb⟩ := byt_own h.1
  cases hv
  exact hb

theorem rune_mid {W : World} {p : Option Addr} {n c5 : Nat} {F : List Int} (hB : Byt W p n c5 ⟨(flat F).toArray⟩) (hE : Env W) (hall : ∀ c ∈ F, fineB c = true) (j : Nat) (hj : j < F.length) (c : Int) (hc : F.getD j 0 = c) :
    Calls Tryd.prog 9 #[.slice p n c5, .int .i64 ((flat (F.take j)).length : Nat)] W fun e w' => e = .returned (.tuple #[.int .i64 c, .int .i64 ((putZ c).length : Nat), .int .i64 0]) ∧ Below W.heap.size W w' := by
  have hf : fineB c = true := by
    refine hall c ?_
    rw [← hc]
    simp [List.getD, List.getElem?_eq_getElem hj]
  have hpp := putZ_pos c
  have hs := flat_split F j hj
  rw [hc] at hs
  have hlen : (flat (F.take j)).length + (putZ c).length ≤ (flat F).length := by
    have := congrArg List.length hs
    simp only [List.length_append, putL_length] at this
    omega
  have hd := mid_decode hf (flat (F.take j)) (flat (F.drop (j + 1)))
  rw [← hs] at hd
  have ht := fineB_top hf
  obtain ⟨e1, e2, e3, h0 | ⟨b, off, rfl, hb, hcl⟩⟩ := hB
  · have e4 : n = (flat F).length := e1
    omega
  · have e4 : n = (flat F).length := e1
    have hr := rune_in ⟨(flat F).toArray⟩ b off c5 (flat (F.take j)).length n W e1 hE.1 (by omega) e2 e3 hcl
    have e : runeG ⟨(flat F).toArray⟩ (flat (F.take j)).length = (c, ((putZ c).length : Int), 0) := by
      unfold runeG
      rw [hd, good_put hf]
      simp; omega
    rw [e] at hr
    exact hr

theorem wrong_runs (w : World) (p : Option Addr) (c5 : Nat) (L : List UInt8) (hB : Byt w p L.length c5 ⟨L.toArray⟩) (hl : L.length ≤ 1000) (X : Int) (xb : UInt8) (hX : X = (xb.toNat : Int)) :
    ∃ v1 w1 p2 c2 w2, (Builtin.append_ #[22, 22] 22 #[.slice (some ⟨w.heap.size, 0, none⟩) 0 0, .slice p L.length c5]).run Tryd.prog (w.alloc (.cells #[] 5)) = .ok v1 w1 ∧
      (Builtin.append_ #[22, 22] 22 #[v1, .slice (some ⟨w1.heap.size, 0, none⟩) 2 2]).run Tryd.prog (w1.alloc (.cells #[.int .u8 X, .int .u8 97] 5)) = .ok (.slice p2 (L.length + 2) c2) w2 ∧
      Byt w2 p2 (L.length + 2) c2 ⟨(L ++ [xb, 97]).toArray⟩ ∧ Below w.heap.size w w2 := by
  have hb0 : Below w.heap.size w (w.alloc (.cells #[] 5)) := (Below.refl _ _).alloc (Nat.le_refl _) _
  obtain ⟨v1, w1, h1, ho1, hg1⟩ := app_run (w.alloc (.cells #[] 5)) w.heap.size _ 0 [] (own_empty w) p L.length c5 ⟨L.toArray⟩ (hB.below hb0) (by simp) (by omega)
  have hb1 : Below w.heap.size w w1 := hb0.grown hg1 (by simp) (fun j hj => by simp [Value.ownBlock] at hj; omega)
  rw [Nat.zero_add, List.nil_append] at ho1
  have e1 : (⟨L.toArray⟩ : ByteArray).data.toList = L := rfl
  rw [e1] at ho1
  subst hX
  have hT : Byt (w1.alloc (.cells #[.int .u8 (xb.toNat : Int), .int .u8 97] 5)) (some ⟨w1.heap.size, 0, none⟩) 2 2 ⟨[xb, 97].toArray⟩ := by
    refine ⟨rfl, Nat.le_refl _, by omega, Or.inr ⟨w1.heap.size, 0, rfl, by simp, fun j hj => ?_⟩⟩
    match j, hj with
    | 0, _ => exact World.cell?_alloc_new w1 _ 5 0
    | 1, _ => exact World.cell?_alloc_new w1 _ 5 1
  obtain ⟨v2, w2, h2, ho2, hg2⟩ := app_run _ w.heap.size v1 L.length L (ho1.alloc (.cells #[.int .u8 (xb.toNat : Int), .int .u8 97] 5)) (some ⟨w1.heap.size, 0, none⟩) 2 2 ⟨[xb, 97].toArray⟩ hT (by have := hb1.size; simp; omega) (by omega)
  have hb2 : Below w.heap.size w w2 := (hb1.alloc hb1.size _).grown hg2 (by have := hb1.size; simp; omega) (fun j hj => (ho1.lt j hj).1)
  obtain ⟨p2, c2, rfl, hB2⟩ := byt_own ho2
  exact ⟨v1, w1, p2, c2, w2, h1, h2, hB2, hb2⟩

set_option maxRecDepth 100000 in
theorem or_all : ∀ (a : Fin 256), 248 ≤ bits .or .u8 248 ((a.val : Nat) : Int) ∧ bits .or .u8 248 ((a.val : Nat) : Int) < 256 := by decide +kernel
theorem or_wrong (x : Int) (h0 : 0 ≤ x) (h1 : x ≤ 255) : ∃ xb : UInt8, bits .or .u8 248 x = (xb.toNat : Int) ∧ 248 ≤ xb.toNat := by
  have hx := or_all ⟨x.toNat, by omega⟩
  simp only at hx
  have e : ((x.toNat : Nat) : Int) = x := by omega
  rw [e] at hx
  generalize bits .or .u8 248 x = X at *
  refine ⟨UInt8.ofNat X.toNat, ?_, ?_⟩
  · rw [ofNat_nat (by omega) (by omega)]
  · rw [UInt8.toNat_ofNat_of_lt' (by show _ < 256; omega)]
    omega

set_option maxRecDepth 100000 in
set_option maxHeartbeats 4000000 in
theorem texts_some (b off n cap : Nat) (zs : List Int) (x : Int) (w : World) (hE : Env w) (hn : n = zs.length) (hnc : n ≤ cap) (_hm : cap ≤ 9223372036854775807) (hB : b < w.heap.size) (hc : ∀ j, j < n → w.cell? ⟨b, off + j, none⟩ = some (.int .i64 (zs.getD j 0))) (hx0 : 0 ≤ x) (hx1 : x ≤ 255) :
    Calls Tryd.prog 6 #[.slice (some ⟨b, off, none⟩) n cap, .int .u8 x] w fun e w' => e = .returned (.bool true) ∧ Below w.heap.size w w' := by
  obtain ⟨M, e1, hM1, hM2⟩ : ∃ M : Nat, min (n : Int) 200 = (M : Int) ∧ M ≤ n ∧ M ≤ 200 := ⟨min n 200, by omega, by omega, by omega⟩
  have e2 : max (M : Int) 0 = (M : Int) := by omega
  have HE := Lib.hid hE
  have HC := Lib.hid hc
  have HN := Lib.hid hn
  clear hE hc hn
  go_enter Tryd.func6, Tryd.ntmps6
  go_wp2
  clear e1 e2
  go_loopw [5, 6, 28] (fun va vo i wr => ∃ (k : Nat) (p5 p6 : Option Addr) (c5 c6 : Nat), k ≤ M ∧ i = .int .i64 k ∧ va = .slice p5 (flat (fines zs k)).length c5 ∧ vo = .slice p6 (fines zs k).length c6 ∧ TextsAt w.heap.size w wr (flat (fines zs k)) (fines zs k) p5 p6 c5 c6) (fun _ _ i _ => M - (RowKit.intOf i).toNat)
  case atStart => exact ⟨0, none, none, 0, 0, Nat.zero_le _, rfl, rfl, rfl, World.ownsRow_nil w _ 5 1, World.ownsRow_nil w _ 3 1, Below.refl _ _⟩
  case round =>
    obtain ⟨k, p5, p6, c5, c6, hk, rfl, rfl, rfl, hat⟩ := hrel
    have HAT := Lib.hid hat
    clear hat
    by_cases hlt : k < M
    · have hcell : wr.cell? ⟨b, off + k, none⟩ = some (.int .i64 (zs.getD k 0)) := by
        rw [HAT.out.2.2.cell (by exact hB)]; exact HC.out k (by omega)
      have hkz : k < zs.length := by have := HN.out; omega
      have hfl := flat_le (fines zs k)
      have hfn := fines_le zs k
      obtain ⟨c, hcc⟩ : ∃ c, zs.getD k 0 = c := ⟨_, rfl⟩
      cases hf : fineB c with
      | false =>
        have hE' := fines_no zs k hkz (by rw [hcc]; exact hf)
        have HF := Lib.hid hf
        have HFN := Lib.hid hE'
        rw [hcc] at hcell
        clear hE' hf hcc hfl hfn hkz
        go_wp2_with (go_at_call 20; refine (put_bad c HF.out _).mono ?_; rintro e w' ⟨rfl, rfl⟩)
        go_roundw
        case rel => exact ⟨k + 1, p5, p6, c5, c6, by omega, by go_num, slice_eq (by rw [HFN.out]), slice_eq (by rw [HFN.out]), by rw [HFN.out]; exact HAT.out⟩
        case measure => simp [RowKit.intOf]; omega
      | true =>
        have hE' := fines_yes zs k hkz (by rw [hcc]; exact hf)
        rw [hcc] at hE'
        have HF := Lib.hid hf
        have HFN := Lib.hid hE'
        rw [hcc] at hcell
        have HFL := Lib.hid hfl
        have HFM := Lib.hid hfn
        clear hE' hf hcc hkz hfl hfn
        go_wp2_with fail
        refine (put_at c HF.out wr).mono ?_
        rintro e w1 ⟨g, d, cur, rfl, hg, hb, hh, hn, hdm, hsz, hta⟩
        have hsize : w.heap.size ≤ w1.heap.size := Nat.le_trans HAT.out.2.2.size hb.size
        obtain ⟨v1, wa, v2, w2, hr1, hr2, ho1, ho2, hbb⟩ := texts_step w1 w.heap.size _ _ _ _ c g d hsize (own_below HAT.out.1 hb) (own_below HAT.out.2.1 hb) (byt_put hh hn hdm hta) (by have := HFL.out; have := HFM.out; omega) (by have := HFM.out; omega)
        obtain ⟨q5, d5, rfl⟩ := own_slice ho1
        obtain ⟨q6, d6, rfl⟩ := own_slice ho2
        have HR1 := Lib.hid hr1
        have HR2 := Lib.hid hr2
        have hnew : TextsAt w.heap.size w w2 (flat (fines zs k) ++ putL c) (fines zs k ++ [c]) q5 q6 d5 d6 := ⟨ho1, ho2, (HAT.out.2.2.trans (hb.mono HAT.out.2.2.size)).trans hbb⟩
        have HNEW := Lib.hid hnew
        clear hb hh hta hsz hr1 hr2 ho1 ho2 hbb hnew hsize
        go_wp2_with (at_builtin; first | (refine wpList_append_run (.tmp 39) (.tmp 40) 22 rfl rfl rfl rfl rfl HR1.out ?_) | (refine wpList_append_run (.tmp 42) (.tmp 44) 37 rfl rfl rfl rfl rfl HR2.out ?_))
        go_roundw
        case rel => exact ⟨k + 1, q5, q6, d5, d6, by omega, by go_num, slice_eq (by rw [HFN.out, flat_snoc, List.length_append]), slice_eq (by rw [HFN.out, List.length_append]; rfl), by rw [HFN.out, flat_snoc]; exact HNEW.out⟩
        case measure => simp [RowKit.intOf]; omega
    · obtain rfl : k = M := by omega
      clear hlt hk
      obtain ⟨wo, rfl⟩ : ∃ wo : World, wo = wr := ⟨_, rfl⟩
      have hall := fines_all zs k
      have hFn := fines_le zs k
      obtain ⟨F, hF⟩ : ∃ F, fines zs k = F := ⟨_, rfl⟩
      rw [hF] at HAT hall hFn ⊢
      clear hF
      have hfl := flat_le F
      obtain ⟨L, hL⟩ : ∃ L, flat F = L := ⟨_, rfl⟩
      have hbA := badAt_flat F hall
      have cA := check_byt HAT.out.byt (HE.out.below HAT.out.2.2).1 (HE.out.below HAT.out.2.2).2
      rw [hbA.1, hbA.2] at cA
      rw [hL] at cA HAT hfl ⊢
      have HL := Lib.hid hL
      have HALL := Lib.hid hall
      have HCA := Lib.hid cA
      have hn1 : F.length ≤ 200 := by omega
      have hl1 : L.length ≤ 800 := by omega
      clear hL hall cA hbA hFn hfl
      rcases own_ints HAT.out.2.1 with ⟨hp6, h60, h6c, hFe⟩ | ⟨g6, hp6, _, h6c, h6m, hg6, hcl6⟩
      · subst hFe hp6 h6c
        go_wp2_with fail
        refine HCA.out.mono ?_
        rintro e w5 ⟨rfl, hb⟩
        have HB5 := Lib.hid hb
        have HBW5 := Lib.hid (HAT.out.2.2.trans (hb.mono HAT.out.2.2.size))
        clear hb
        go_wp2
        go_loopw [13, 62] (fun t i wq => ∃ j : Nat, j ≤ ([] : List Int).length ∧ i = .int .i64 j ∧ t = .int .i64 ((flat (([] : List Int).take j)).length : Nat) ∧ Below w5.heap.size w5 wq) (fun _ i _ => ([] : List Int).length - (RowKit.intOf i).toNat)
        case atStart => exact ⟨0, Nat.zero_le _, rfl, rfl, Below.refl _ _⟩
        case round =>
          obtain ⟨j, hj, rfl, rfl, hbq⟩ := hrel
          have HBQ := Lib.hid hbq
          have HBWQ := Lib.hid (HBW5.out.trans (hbq.mono HBW5.out.size))
          have HWQ := Lib.hid (HB5.out.trans (hbq.mono HB5.out.size))
          clear hbq
          by_cases hjl : j < ([] : List Int).length
          · exact absurd hjl (by simp)
          · obtain rfl : j = ([] : List Int).length := by omega
            clear hjl hj
            have hK : (flat (([] : List Int).take ([] : List Int).length)).length = L.length := by rw [flat_all, HL.out]
            obtain ⟨xb, hX, hxb⟩ := or_wrong x hx0 hx1
            obtain ⟨v1, wa, p2, c2, w7, hr1, hr2, hB7, hb7⟩ := wrong_runs wr p5 c5 L (HAT.out.byt.below HWQ.out) (by omega) _ xb hX
            have hbw := badAt_wrong [] HALL.out xb hxb
            have hE7 := (HE.out.below HBWQ.out).below hb7
            have cW := check_byt hB7 hE7.1 hE7.2
            rw [← HL.out, hbw.1, hbw.2, HL.out] at cW
            have HCW := Lib.hid cW
            have HR1 := Lib.hid hr1
            have HR2 := Lib.hid hr2
            have HB7 := Lib.hid (HBWQ.out.trans (hb7.mono HBWQ.out.size))
            clear hr1 hr2 hB7 hb7 hbw hE7 cW hX hxb
            rw [hK]
            clear hK
            go_wp2_with (at_builtin; first | (refine wpList_append_run (.tmp 89) (.tmp 90) 22 rfl rfl rfl rfl rfl HR1.out ?_) | (refine wpList_append_run (.tmp 91) (.tmp 94) 22 rfl rfl rfl rfl rfl HR2.out ?_))
            refine HCW.out.mono ?_
            rintro e w8 ⟨rfl, hb⟩
            have HB8 := Lib.hid (HB7.out.trans (hb.mono HB7.out.size))
            clear hb
            go_wp2_with (go_at_call 12; refine (alive_any _ (HE.out.below HB8.out)).mono ?_; rintro e w' ⟨rfl, hb⟩; have HB := Lib.hid hb; clear hb)
            go_ret
            exact ⟨rfl, HB8.out.trans (HB.out.mono HB8.out.size)⟩
      · subst hp6
        have HCL6 := Lib.hid hcl6
        clear hcl6
        go_wp2_with fail
        refine HCA.out.mono ?_
        rintro e w5 ⟨rfl, hb⟩
        have HB5 := Lib.hid hb
        have HBW5 := Lib.hid (HAT.out.2.2.trans (hb.mono HAT.out.2.2.size))
        clear hb
        go_wp2
        go_loopw [13, 62] (fun t i wq => ∃ j : Nat, j ≤ F.length ∧ i = .int .i64 j ∧ t = .int .i64 ((flat (F.take j)).length : Nat) ∧ Below w5.heap.size w5 wq) (fun _ i _ => F.length - (RowKit.intOf i).toNat)
        case atStart => exact ⟨0, Nat.zero_le _, rfl, rfl, Below.refl _ _⟩
        case round =>
          obtain ⟨j, hj, rfl, rfl, hbq⟩ := hrel
          have HBQ := Lib.hid hbq
          have HBWQ := Lib.hid (HBW5.out.trans (hbq.mono HBW5.out.size))
          have HWQ := Lib.hid (HB5.out.trans (hbq.mono HB5.out.size))
          clear hbq
          by_cases hjl : j < F.length
          · obtain ⟨c, hcc⟩ : ∃ c, F.getD j 0 = c := ⟨_, rfl⟩
            have hcell : wr.cell? ⟨g6, j, none⟩ = some (.int .i64 c) := by
              rw [HWQ.out.cell (by exact hg6)]
              have := HCL6.out j hjl
              rw [Nat.zero_add, hcc] at this
              exact this
            have hnx := flat_next F j hjl
            rw [hcc] at hnx
            have hq := HAT.out.byt.below HWQ.out
            have hLL := HL.out
            rw [← hLL] at hq
            have cR := rune_mid hq (HE.out.below HBWQ.out) HALL.out j hjl c hcc
            rw [hLL] at cR
            have HCR := Lib.hid cR
            have HNX := Lib.hid hnx
            have hpp := putZ_pos c
            have hKl : (flat (F.take j)).length ≤ 800 := by have h1 := flat_le (F.take j); have h2 := List.length_take_le j F; omega
            clear hnx hq hLL cR hcc
            obtain ⟨K, hK⟩ : ∃ K, (flat (F.take j)).length = K := ⟨_, rfl⟩
            obtain ⟨m, hm⟩ : ∃ m, (putZ c).length = m := ⟨_, rfl⟩
            rw [hK] at HCR HNX hKl ⊢
            rw [hm] at HCR HNX hpp
            clear hK hm
            go_wp2_with (go_at_call 9; refine HCR.out.mono ?_; rintro e w' ⟨rfl, hb⟩; have HB := Lib.hid hb; clear hb)
            go_roundw
            case rel => exact ⟨j + 1, by omega, by go_num, by rw [HNX.out]; go_num, HBQ.out.trans (HB.out.mono HBQ.out.size)⟩
            case measure => simp [RowKit.intOf]; omega
          · obtain rfl : j = F.length := by omega
            clear hjl hj
            have hK : (flat (F.take F.length)).length = L.length := by rw [flat_all, HL.out]
            obtain ⟨xb, hX, hxb⟩ := or_wrong x hx0 hx1
            obtain ⟨v1, wa, p2, c2, w7, hr1, hr2, hB7, hb7⟩ := wrong_runs wr p5 c5 L (HAT.out.byt.below HWQ.out) (by omega) _ xb hX
            have hbw := badAt_wrong F HALL.out xb hxb
            have hE7 := (HE.out.below HBWQ.out).below hb7
            have cW := check_byt hB7 hE7.1 hE7.2
            rw [← HL.out, hbw.1, hbw.2, HL.out] at cW
            have HCW := Lib.hid cW
            have HR1 := Lib.hid hr1
            have HR2 := Lib.hid hr2
            have HB7 := Lib.hid (HBWQ.out.trans (hb7.mono HBWQ.out.size))
            clear hr1 hr2 hB7 hb7 hbw hE7 cW hX hxb
            rw [hK]
            clear hK
            go_wp2_with (at_builtin; first | (refine wpList_append_run (.tmp 89) (.tmp 90) 22 rfl rfl rfl rfl rfl HR1.out ?_) | (refine wpList_append_run (.tmp 91) (.tmp 94) 22 rfl rfl rfl rfl rfl HR2.out ?_))
            refine HCW.out.mono ?_
            rintro e w8 ⟨rfl, hb⟩
            have HB8 := Lib.hid (HB7.out.trans (hb.mono HB7.out.size))
            clear hb
            go_wp2_with (go_at_call 12; refine (alive_any _ (HE.out.below HB8.out)).mono ?_; rintro e w' ⟨rfl, hb⟩; have HB := Lib.hid hb; clear hb)
            go_ret
            exact ⟨rfl, HB8.out.trans (HB.out.mono HB8.out.size)⟩

set_option maxRecDepth 100000 in
set_option maxHeartbeats 4000000 in
theorem texts_zero (p : Option Addr) (cap : Nat) (zs : List Int) (x : Int) (w : World) (hE : Env w) (_hm : cap ≤ 9223372036854775807) (hx0 : 0 ≤ x) (hx1 : x ≤ 255) :
    Calls Tryd.prog 6 #[.slice p 0 cap, .int .u8 x] w fun e w' => e = .returned (.bool true) ∧ Below w.heap.size w w' := by
  have hma : Option.map (fun x : Addr => x.add 0) p = p := by cases p <;> simp [Addr.add]
  obtain ⟨M, hM0⟩ : ∃ M : Nat, M = 0 := ⟨0, rfl⟩
  have hM2 : M ≤ 200 := by omega
  have HM0 := Lib.hid hM0
  have e1 : min (0 : Int) 200 = 0 := rfl
  have e2 : max (0 : Int) 0 = 0 := rfl
  have HE := Lib.hid hE
  clear hE hM0
  go_enter Tryd.func6, Tryd.ntmps6
  go_wp2
  have hz : (0 : Int) = ((M : Nat) : Int) := by have := HM0.out; omega
  clear e1 e2
  go_loopw [5, 6, 28] (fun va vo i wr => ∃ (k : Nat) (p5 p6 : Option Addr) (c5 c6 : Nat), k ≤ M ∧ i = .int .i64 k ∧ va = .slice p5 (flat (fines zs k)).length c5 ∧ vo = .slice p6 (fines zs k).length c6 ∧ TextsAt w.heap.size w wr (flat (fines zs k)) (fines zs k) p5 p6 c5 c6) (fun _ _ i _ => M - (RowKit.intOf i).toNat)
  case atStart => exact ⟨0, none, none, 0, 0, Nat.zero_le _, rfl, rfl, rfl, World.ownsRow_nil w _ 5 1, World.ownsRow_nil w _ 3 1, Below.refl _ _⟩
  case round =>
    obtain ⟨k, p5, p6, c5, c6, hk, rfl, rfl, rfl, hat⟩ := hrel
    have HAT := Lib.hid hat
    clear hat
    by_cases hlt : k < M
    · exact absurd hlt (by have := HM0.out; omega)
    · obtain rfl : k = M := by omega
      clear hlt hk
      obtain ⟨wo, rfl⟩ : ∃ wo : World, wo = wr := ⟨_, rfl⟩
      have hall := fines_all zs k
      have hFn := fines_le zs k
      obtain ⟨F, hF⟩ : ∃ F, fines zs k = F := ⟨_, rfl⟩
      rw [hF] at HAT hall hFn ⊢
      clear hF
      have hfl := flat_le F
      obtain ⟨L, hL⟩ : ∃ L, flat F = L := ⟨_, rfl⟩
      have hbA := badAt_flat F hall
      have cA := check_byt HAT.out.byt (HE.out.below HAT.out.2.2).1 (HE.out.below HAT.out.2.2).2
      rw [hbA.1, hbA.2] at cA
      rw [hL] at cA HAT hfl ⊢
      have HL := Lib.hid hL
      have HALL := Lib.hid hall
      have HCA := Lib.hid cA
      have hn1 : F.length ≤ 200 := by omega
      have hl1 : L.length ≤ 800 := by omega
      clear hL hall cA hbA hFn hfl
      rcases own_ints HAT.out.2.1 with ⟨hp6, h60, h6c, hFe⟩ | ⟨g6, hp6, _, h6c, h6m, hg6, hcl6⟩
      · subst hFe hp6 h6c
        go_wp2_with fail
        refine HCA.out.mono ?_
        rintro e w5 ⟨rfl, hb⟩
        have HB5 := Lib.hid hb
        have HBW5 := Lib.hid (HAT.out.2.2.trans (hb.mono HAT.out.2.2.size))
        clear hb
        go_wp2
        go_loopw [13, 62] (fun t i wq => ∃ j : Nat, j ≤ ([] : List Int).length ∧ i = .int .i64 j ∧ t = .int .i64 ((flat (([] : List Int).take j)).length : Nat) ∧ Below w5.heap.size w5 wq) (fun _ i _ => ([] : List Int).length - (RowKit.intOf i).toNat)
        case atStart => exact ⟨0, Nat.zero_le _, rfl, rfl, Below.refl _ _⟩
        case round =>
          obtain ⟨j, hj, rfl, rfl, hbq⟩ := hrel
          have HBQ := Lib.hid hbq
          have HBWQ := Lib.hid (HBW5.out.trans (hbq.mono HBW5.out.size))
          have HWQ := Lib.hid (HB5.out.trans (hbq.mono HB5.out.size))
          clear hbq
          by_cases hjl : j < ([] : List Int).length
          · exact absurd hjl (by simp)
          · obtain rfl : j = ([] : List Int).length := by omega
            clear hjl hj
            have hK : (flat (([] : List Int).take ([] : List Int).length)).length = L.length := by rw [flat_all, HL.out]
            obtain ⟨xb, hX, hxb⟩ := or_wrong x hx0 hx1
            obtain ⟨v1, wa, p2, c2, w7, hr1, hr2, hB7, hb7⟩ := wrong_runs wr p5 c5 L (HAT.out.byt.below HWQ.out) (by omega) _ xb hX
            have hbw := badAt_wrong [] HALL.out xb hxb
            have hE7 := (HE.out.below HBWQ.out).below hb7
            have cW := check_byt hB7 hE7.1 hE7.2
            rw [← HL.out, hbw.1, hbw.2, HL.out] at cW
            have HCW := Lib.hid cW
            have HR1 := Lib.hid hr1
            have HR2 := Lib.hid hr2
            have HB7 := Lib.hid (HBWQ.out.trans (hb7.mono HBWQ.out.size))
            clear hr1 hr2 hB7 hb7 hbw hE7 cW hX hxb
            rw [hK]
            clear hK
            go_wp2_with (at_builtin; first | (refine wpList_append_run (.tmp 89) (.tmp 90) 22 rfl rfl rfl rfl rfl HR1.out ?_) | (refine wpList_append_run (.tmp 91) (.tmp 94) 22 rfl rfl rfl rfl rfl HR2.out ?_))
            refine HCW.out.mono ?_
            rintro e w8 ⟨rfl, hb⟩
            have HB8 := Lib.hid (HB7.out.trans (hb.mono HB7.out.size))
            clear hb
            go_wp2_with (go_at_call 12; refine (alive_any _ (HE.out.below HB8.out)).mono ?_; rintro e w' ⟨rfl, hb⟩; have HB := Lib.hid hb; clear hb)
            go_ret
            exact ⟨rfl, HB8.out.trans (HB.out.mono HB8.out.size)⟩
      · subst hp6
        have HCL6 := Lib.hid hcl6
        clear hcl6
        go_wp2_with fail
        refine HCA.out.mono ?_
        rintro e w5 ⟨rfl, hb⟩
        have HB5 := Lib.hid hb
        have HBW5 := Lib.hid (HAT.out.2.2.trans (hb.mono HAT.out.2.2.size))
        clear hb
        go_wp2
        go_loopw [13, 62] (fun t i wq => ∃ j : Nat, j ≤ F.length ∧ i = .int .i64 j ∧ t = .int .i64 ((flat (F.take j)).length : Nat) ∧ Below w5.heap.size w5 wq) (fun _ i _ => F.length - (RowKit.intOf i).toNat)
        case atStart => exact ⟨0, Nat.zero_le _, rfl, rfl, Below.refl _ _⟩
        case round =>
          obtain ⟨j, hj, rfl, rfl, hbq⟩ := hrel
          have HBQ := Lib.hid hbq
          have HBWQ := Lib.hid (HBW5.out.trans (hbq.mono HBW5.out.size))
          have HWQ := Lib.hid (HB5.out.trans (hbq.mono HB5.out.size))
          clear hbq
          by_cases hjl : j < F.length
          · obtain ⟨c, hcc⟩ : ∃ c, F.getD j 0 = c := ⟨_, rfl⟩
            have hcell : wr.cell? ⟨g6, j, none⟩ = some (.int .i64 c) := by
              rw [HWQ.out.cell (by exact hg6)]
              have := HCL6.out j hjl
              rw [Nat.zero_add, hcc] at this
              exact this
            have hnx := flat_next F j hjl
            rw [hcc] at hnx
            have hq := HAT.out.byt.below HWQ.out
            have hLL := HL.out
            rw [← hLL] at hq
            have cR := rune_mid hq (HE.out.below HBWQ.out) HALL.out j hjl c hcc
            rw [hLL] at cR
            have HCR := Lib.hid cR
            have HNX := Lib.hid hnx
            have hpp := putZ_pos c
            have hKl : (flat (F.take j)).length ≤ 800 := by have h1 := flat_le (F.take j); have h2 := List.length_take_le j F; omega
            clear hnx hq hLL cR hcc
            obtain ⟨K, hK⟩ : ∃ K, (flat (F.take j)).length = K := ⟨_, rfl⟩
            obtain ⟨m, hm⟩ : ∃ m, (putZ c).length = m := ⟨_, rfl⟩
            rw [hK] at HCR HNX hKl ⊢
            rw [hm] at HCR HNX hpp
            clear hK hm
            go_wp2_with (go_at_call 9; refine HCR.out.mono ?_; rintro e w' ⟨rfl, hb⟩; have HB := Lib.hid hb; clear hb)
            go_roundw
            case rel => exact ⟨j + 1, by omega, by go_num, by rw [HNX.out]; go_num, HBQ.out.trans (HB.out.mono HBQ.out.size)⟩
            case measure => simp [RowKit.intOf]; omega
          · obtain rfl : j = F.length := by omega
            clear hjl hj
            have hK : (flat (F.take F.length)).length = L.length := by rw [flat_all, HL.out]
            obtain ⟨xb, hX, hxb⟩ := or_wrong x hx0 hx1
            obtain ⟨v1, wa, p2, c2, w7, hr1, hr2, hB7, hb7⟩ := wrong_runs wr p5 c5 L (HAT.out.byt.below HWQ.out) (by omega) _ xb hX
            have hbw := badAt_wrong F HALL.out xb hxb
            have hE7 := (HE.out.below HBWQ.out).below hb7
            have cW := check_byt hB7 hE7.1 hE7.2
            rw [← HL.out, hbw.1, hbw.2, HL.out] at cW
            have HCW := Lib.hid cW
            have HR1 := Lib.hid hr1
            have HR2 := Lib.hid hr2
            have HB7 := Lib.hid (HBWQ.out.trans (hb7.mono HBWQ.out.size))
            clear hr1 hr2 hB7 hb7 hbw hE7 cW hX hxb
            rw [hK]
            clear hK
            go_wp2_with (at_builtin; first | (refine wpList_append_run (.tmp 89) (.tmp 90) 22 rfl rfl rfl rfl rfl HR1.out ?_) | (refine wpList_append_run (.tmp 91) (.tmp 94) 22 rfl rfl rfl rfl rfl HR2.out ?_))
            refine HCW.out.mono ?_
            rintro e w8 ⟨rfl, hb⟩
            have HB8 := Lib.hid (HB7.out.trans (hb.mono HB7.out.size))
            clear hb
            go_wp2_with (go_at_call 12; refine (alive_any _ (HE.out.below HB8.out)).mono ?_; rintro e w' ⟨rfl, hb⟩; have HB := Lib.hid hb; clear hb)
            go_ret
            exact ⟨rfl, HB8.out.trans (HB.out.mono HB8.out.size)⟩

theorem texts_any (p : Option Addr) (n cap : Nat) (zs : List Int) (x : Int) (w : World) (hE : Env w) (hI : Ints w p n cap zs) (hx0 : 0 ≤ x) (hx1 : x ≤ 255) :
    Calls Tryd.prog 6 #[.slice p n cap, .int .u8 x] w fun e w' => e = .returned (.bool true) ∧ Below w.heap.size w w' := by
  obtain ⟨hn, hnc, hm, h0 | ⟨b, off, rfl, hB, hc⟩⟩ := hI
  · subst h0
    exact texts_zero p cap zs x w hE hm hx0 hx1
  · exact texts_some b off n cap zs x w hE hn hnc hm hB hc hx0 hx1
end Go.Proofs.YthlofckaljkhhaaDoor
