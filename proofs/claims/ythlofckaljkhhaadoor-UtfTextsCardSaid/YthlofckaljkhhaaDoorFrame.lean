/- What the row's list gives: the two tables of unicode/utf8 hold what their initialisers lay; and a world for the witness. -/
import Derived.Test.YthlofckaljkhhaaDoorPut
import Derived.Test.YthlofckaljkhhaaDoorCards
import Derived.Test.YthlofckaljkhhaaDoorTie
import Derived.WalkKit
import Derived.ProofKit
import Derived.OpenShut
import Derived.Deep.DeepHandedRow
import Derived.Lib.LaidTab
import Derived.Lib.LaidU8T
import Derived.SizedLaws
namespace Go.Proofs.YthlofckaljkhhaaDoor
open Go.ChangeShapes Go.WideShapes Go.ChangeAt Go.RowKit
open Go.Lib (firstData acceptData LaidVars_reads firstT accLo accHi)

theorem own : ownKnob Tryd.prog.godebug = none := by kernel_rfl
theorem u8extra : U8Extra Tryd.prog Tryd.lays260_ren :=
  { n3 := by kernel_rfl, n4 := by kernel_rfl, y3 := by kernel_rfl, y4 := by kernel_rfl, c5 := by kernel_rfl, c119 := by kernel_rfl, c138 := by kernel_rfl }
theorem firstData_eq : Rows.laid_unicode_utf8_first = firstData := by kernel_rfl
theorem acceptData_eq : (Rows.laid_unicode_utf8_acceptRanges : DataW Unit) = acceptData := by kernel_rfl

def laidList : List (String × DataW Unit) := [("unicode/utf8.acceptRanges", Rows.laid_unicode_utf8_acceptRanges), ("unicode/utf8.first", Rows.laid_unicode_utf8_first)]

theorem env_of_laid {W : World} (h : laidMetH Tryd.prog laidList W) : Env W := by
  have h' : laidMet Tryd.prog laidList W := h
  obtain ⟨ps, hps, _⟩ := h'
  have h1 := LaidVars_reads hps "unicode/utf8.acceptRanges" _ (List.mem_cons_self ..)
  have h2 := LaidVars_reads hps "unicode/utf8.first" _ (List.mem_cons_of_mem _ (List.mem_cons_self ..))
  rw [acceptData_eq] at h1
  rw [firstData_eq] at h2
  have hT : Lib.Utf8Tabs 0 1 W := utf8Tabs_of_readsT (U8Types.of260 Tryd.lays260) u8extra h2 h1
  exact ⟨hT, by have := World.block_lt_of_cell? W _ (hT.2 0 (by omega)).1; simpa using this⟩

/-- A world for the witness: the settled one, the two tables holding what their initialisers lay. -/
def firstCells : Array Value := ((List.range 256).map fun c => Value.int .u8 (firstT c)).toArray
def acceptCells : Array Value := ((List.range 16).flatMap fun i => [Value.int .u8 (accLo i), Value.int .u8 (accHi i)]).toArray
def setCells (C : Array Value) : Obj → Obj
  | .cells _ t frozen => .cells C t frozen
  | o => o
noncomputable def laidWorld (os : Os) : World :=
  { World.holding Tryd.prog os ⟨#[], #[], []⟩ with heap := ((World.holding Tryd.prog os ⟨#[], #[], []⟩).heap.modify 0 (setCells firstCells)).modify 1 (setCells acceptCells) }

theorem laidOut : laidOutB Tryd.prog = true := by kernel_rfl

theorem get!_list (l : List UInt8) (j : Nat) (h : j < l.length) : (⟨l.toArray⟩ : ByteArray).get! j = l[j] := by
  have e := get_at ⟨l.toArray⟩ j h
  simp only [Nat.add_zero] at e
  rw [e]
  rfl

/-- a slice of bytes that came in, as the walks want it -/
theorem byt_of_open {H : Type} {enc : TypeId × Value → H} {W : World} {spare : Nat → Bool} {held : Bool} {a : Option Addr} {len cap : Nat} {d : DataW H} {ps : List MemPlace} {base : Nat}
    (h : DataW.Trod enc Tryd.prog W base spare held 22 (.slice a len cap) d ps) : ∃ s : ByteArray, Byt W a len cap s := by
  obtain ⟨fuel, hf⟩ := h
  rcases open_ints Tryd.underlying22 Tryd.underlying5 (by kernel_rfl) hf with ⟨hcs, _⟩ | ⟨x, l, c, zs, hcs, _, hl, hm, hz, _, hcell, hwz⟩
  · simp [Value.cells] at hcs
    obtain ⟨rfl, rfl, rfl⟩ := hcs
    exact ⟨ByteArray.empty, rfl, Nat.le_refl _, by omega, Or.inl rfl⟩
  · simp [Value.cells] at hcs
    obtain ⟨rfl, rfl, rfl⟩ := hcs
    unfold maxLen at hm
    have hzl : len ≤ zs.length := by rw [hz]; split <;> omega
    let bs : List UInt8 := (zs.take len).map fun n => UInt8.ofNat n.toNat
    have hbl : bs.length = len := by simp [bs]; omega
    refine ⟨⟨bs.toArray⟩, hbl.symm, hl, hm, ?_⟩
    by_cases h0 : len = 0
    · exact Or.inl h0
    · obtain ⟨b, off, spot⟩ := x
      have hc0 := hcell 0 (by omega)
      have hspot : spot = none := by simpa [Addr.add] using World.cell?_spot hc0
      subst hspot
      refine Or.inr ⟨b, off, rfl, ?_, fun j hj => ?_⟩
      · have := World.block_lt_of_cell? W _ hc0
        simpa [Addr.add] using this
      · have hj' : j < bs.length := hj
        have hjz : j < zs.length := by omega
        have hc := hcell j hjz
        rw [addr_add] at hc
        rw [hc, get!_list bs j hj']
        have e1 : bs[j] = UInt8.ofNat (zs.getD j 0).toNat := by simp [bs, List.getD, List.getElem?_eq_getElem hjz]
        have hw := hwz (zs.getD j 0) (by simp [List.getD, List.getElem?_eq_getElem hjz])
        have hr : 0 ≤ zs.getD j 0 ∧ zs.getD j 0 ≤ 255 := bounds_u8 hw
        rw [e1]
        congr 2
        rw [UInt8.toNat_ofNat_of_lt' (by show _ < 256; omega)]
        omega

theorem bytes5 : Tryd.prog.bytesOf 5 = 1 := by kernel_rfl
/-- the form's own reach: how long a slice of bytes that came in can be -/
theorem byt_reach {H : Type} {enc : TypeId × Value → H} {W : World} {spare : Nat → Bool} {held : Bool} {a : Option Addr} {len cap : Nat} {d : DataW H} {ps : List MemPlace} {base : Nat}
    (h : DataW.Trod enc Tryd.prog W base spare held 22 (.slice a len cap) d ps) {ts : List TypeId} {ds : List (DataW H)}
    (hsz : (DataW.weightsEach Tryd.prog ts ds).all (· ≤ reachBytes) = true) (j : Nat) (ht : ts[j]? = some 22) (hd : ds[j]? = some d) : len ≤ 140737488351232 := by
  obtain ⟨fuel, hf⟩ := h
  rcases open_ints Tryd.underlying22 Tryd.underlying5 (by kernel_rfl) hf with ⟨hcs, _⟩ | ⟨x, l, c, zs, hcs, _, hl, hm, hz, hx, hcell, hwz⟩
  · simp [Value.cells] at hcs
    omega
  · simp [Value.cells] at hcs
    obtain ⟨rfl, rfl, rfl⟩ := hcs
    obtain ⟨rfl, _⟩ := Prod.mk.inj hx
    have hzl : len ≤ zs.length := by rw [hz]; split <;> omega
    have h1 := sized_slice hsz ht hd Tryd.underlying22
    rw [bytes5] at h1
    simp only [lits, List.length_map, List.length_take, List.length_drop, reachBytes] at h1
    omega
end Go.Proofs.YthlofckaljkhhaaDoor
