/- What the row's list gives: the two tables of unicode/utf8 hold what their initialisers lay; and a world for the witness. -/
import Derived.Test.YthlofckaljkhhaaDoorPut
import Derived.Test.YthlofckaljkhhaaDoorCards
import Derived.Test.YthlofckaljkhhaaDoorTie
import Derived.WalkKit
import Derived.ProofKit
import Derived.OpenShut
import Derived.Deep.DeepHandedRow
import Derived.Lib.LaidTab
import Derived.Lib.LaidU8T
namespace Go.Proofs.YthlofckaljkhhaaDoor
open Go.ChangeShapes Go.WideShapes Go.ChangeAt Go.RowKit
open Go.Lib (firstData acceptData LaidVars_reads firstT accLo accHi)

theorem own : ownKnob Tryd.prog.godebug = none := by kernel_rfl
theorem u8extra : U8Extra Tryd.prog Tryd.lays260_ren :=
  { n3 := by kernel_rfl, n4 := by kernel_rfl, y3 := by kernel_rfl, y4 := by kernel_rfl, c5 := by kernel_rfl, c119 := by kernel_rfl, c138 := by kernel_rfl }
theorem firstData_eq : Rows.laid_unicode_utf8_first = firstData := by kernel_rfl
theorem acceptData_eq : (Rows.laid_unicode_utf8_acceptRanges : DataW Unit) = acceptData := by kernel_rfl

def laidList : List (String × DataW Unit) := [("unicode/utf8.acceptRanges", Rows.laid_unicode_utf8_acceptRanges), ("unicode/utf8.first", Rows.laid_unicode_utf8_first)]

theorem env_of_laid {W : World} (h : laidMetH Tryd.prog laidList W) : Env W := by
  have h' : laidMet Tryd.prog laidList W := h
  obtain ⟨ps, hps, _⟩ := h'
  have h1 := LaidVars_reads hps "unicode/utf8.acceptRanges" _ (List.mem_cons_self ..)
  have h2 := LaidVars_reads hps "unicode/utf8.first" _ (List.mem_cons_of_mem _ (List.mem_cons_self ..))
  rw [acceptData_eq] at h1
  rw [firstData_eq] at h2
  have hT : Lib.Utf8Tabs 0 1 W := utf8Tabs_of_readsT (U8Types.of260 Tryd.lays260) u8extra h2 h1
  exact ⟨hT, by have := World.block_lt_of_cell? W _ (hT.2 0 (by omega)).1; simpa using this⟩

/-- A world for the witness: the settled one, the two tables holding what their initialisers lay. -/
def firstCells : Array Value := ((List.range 256).map fun c => Value.int .u8 (firstT c)).toArray
def acceptCells : Array Value := ((List.range 16).flatMap fun i => [Value.int .u8 (accLo i), Value.int .u8 (accHi i)]).toArray
def setCells (C : Array Value) : Obj → Obj
  | .cells _ t frozen => .cells C t frozen
  | o => o
noncomputable def laidWorld (os : Os) : World :=
  { World.holding Tryd.prog os ⟨#[], #[], []⟩ with heap := ((World.holding Tryd.prog os ⟨#[], #[], []⟩).heap.modify 0 (setCells firstCells)).modify 1 (setCells acceptCells) }
end Go.Proofs.YthlofckaljkhhaaDoor
