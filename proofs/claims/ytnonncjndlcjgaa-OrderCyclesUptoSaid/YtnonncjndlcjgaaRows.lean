/-
  No cell of these rows narrows 'for every input' (looked for: loops, veiled, ifaces, maps, wideKeys, modest, calm, conditions, laid).
  DERIVED. THE GIVEN ROWS OF THIS SEAT. 6 by the template 'for every input the law returns true; each argument reads behind the call as it read before'; 0 by the template 'total and deterministic' (their statements: YtnonncjndlcjgaaTotals.lean).
  GIVEN WITH THE SEED: the statements are not yours to turn. If you find one false, say at which input.
  Laid BY PROGRAM, IN A SANDBOX (cutbox-rows.mjs): the forced cells as the released guide's own fill.sh prints them over the translation c7a5e0110d52d6df… (all of the seat's roots in one cut). By AI agents, Wed Nov 11 2026. No macro, syntax, notation, axiom, sorry.
-/
import Derived.Test.YtnonncjndlcjgaaChecked
import GoSem.Claim
import GoSem.ClaimJoined
import GoSem.ClaimMapViews
import Derived.JoinedTies
import Derived.KernelRfl
namespace Go.Proofs.Ytnonncjndlcjgaa
/- THE CELL 'sum', in the pinned program and in every row, IS THE sha256 OF THE DUMP (.gsa) THAT YtnonncjndlcjgaaProg.lean LOADS. Nothing in Lean hashes anything: it is a label: what it is worth is what the hold of that sum in a sandbox is worth. -/
noncomputable def Try.pinned : Pinned := { name := "ytnonncjndlcjgaa", sum := "c7a5e0110d52d6dfe70ccf03f5a28d34415d7e2d613d19d1fe5eaf1a0adb1f19", checked := Try.checked }
namespace Rows
def none {H : Type} : Left H := { results := [], args := [] }

/-- 'tipstavelaw14.OrderSorts': WHATEVER THE INPUT: true; the input reads as it did. -/
def orderSortsSpec : ChangeSpec := { name := "orderSorts", fn := fun _ => fun
  | [d1, d2] => { results := [.lit (.bool true)], args := [d1, d2] }
  | _ => none }
def orderSortsRow : OpenClaim := { program := "ytnonncjndlcjgaa", sum := "c7a5e0110d52d6dfe70ccf03f5a28d34415d7e2d613d19d1fe5eaf1a0adb1f19", func := "tipstave/tipstavelaw14.OrderSorts", spec := "orderSorts", unfollowed := true, recurses := true, apart := false }
def OrderSortsSaid : Prop := orderSortsRow.holds Try.pinned (OpenSpec.ofChange orderSortsSpec)

/-- ITS FALSE NEIGHBOUR: 'it returns false'. Refute it at one input. -/
def orderSortsWrong : ChangeSpec := { name := "orderSorts", fn := fun _ => fun
  | [d1, d2] => { results := [.lit (.bool false)], args := [d1, d2] }
  | _ => none }
def OrderSortsWrongFalsely : Prop := orderSortsRow.holds Try.pinned (OpenSpec.ofChange orderSortsWrong)

/-- 'tipstavelaw14.OrderNames': WHATEVER THE INPUT: true; the input reads as it did. -/
def orderNamesSpec : ChangeSpec := { name := "orderNames", fn := fun _ => fun
  | [d] => { results := [.lit (.bool true)], args := [d] }
  | _ => none }
def orderNamesRow : OpenClaim := { program := "ytnonncjndlcjgaa", sum := "c7a5e0110d52d6dfe70ccf03f5a28d34415d7e2d613d19d1fe5eaf1a0adb1f19", func := "tipstave/tipstavelaw14.OrderNames", spec := "orderNames", unfollowed := true, recurses := true, apart := false }
def OrderNamesSaid : Prop := orderNamesRow.holds Try.pinned (OpenSpec.ofChange orderNamesSpec)

/-- ITS FALSE NEIGHBOUR: 'it returns false'. Refute it at one input. -/
def orderNamesWrong : ChangeSpec := { name := "orderNames", fn := fun _ => fun
  | [d] => { results := [.lit (.bool false)], args := [d] }
  | _ => none }
def OrderNamesWrongFalsely : Prop := orderNamesRow.holds Try.pinned (OpenSpec.ofChange orderNamesWrong)

/-- 'tipstavelaw14.OrderBehind': WHATEVER THE INPUT: true; the input reads as it did. -/
def orderBehindSpec : ChangeSpec := { name := "orderBehind", fn := fun _ => fun
  | [d1, d2] => { results := [.lit (.bool true)], args := [d1, d2] }
  | _ => none }
def orderBehindRow : OpenClaim := { program := "ytnonncjndlcjgaa", sum := "c7a5e0110d52d6dfe70ccf03f5a28d34415d7e2d613d19d1fe5eaf1a0adb1f19", func := "tipstave/tipstavelaw14.OrderBehind", spec := "orderBehind", unfollowed := true, recurses := true, apart := false }
def OrderBehindSaid : Prop := orderBehindRow.holds Try.pinned (OpenSpec.ofChange orderBehindSpec)

/-- ITS FALSE NEIGHBOUR: 'it returns false'. Refute it at one input. -/
def orderBehindWrong : ChangeSpec := { name := "orderBehind", fn := fun _ => fun
  | [d1, d2] => { results := [.lit (.bool false)], args := [d1, d2] }
  | _ => none }
def OrderBehindWrongFalsely : Prop := orderBehindRow.holds Try.pinned (OpenSpec.ofChange orderBehindWrong)

/-- 'tipstavelaw14.OrderStuck': WHATEVER THE INPUT: true; the input reads as it did. -/
def orderStuckSpec : ChangeSpec := { name := "orderStuck", fn := fun _ => fun
  | [d1, d2] => { results := [.lit (.bool true)], args := [d1, d2] }
  | _ => none }
def orderStuckRow : OpenClaim := { program := "ytnonncjndlcjgaa", sum := "c7a5e0110d52d6dfe70ccf03f5a28d34415d7e2d613d19d1fe5eaf1a0adb1f19", func := "tipstave/tipstavelaw14.OrderStuck", spec := "orderStuck", unfollowed := true, recurses := true, apart := false }
def OrderStuckSaid : Prop := orderStuckRow.holds Try.pinned (OpenSpec.ofChange orderStuckSpec)

/-- ITS FALSE NEIGHBOUR: 'it returns false'. Refute it at one input. -/
def orderStuckWrong : ChangeSpec := { name := "orderStuck", fn := fun _ => fun
  | [d1, d2] => { results := [.lit (.bool false)], args := [d1, d2] }
  | _ => none }
def OrderStuckWrongFalsely : Prop := orderStuckRow.holds Try.pinned (OpenSpec.ofChange orderStuckWrong)

/-- 'tipstavelaw14.OrderCycles': WHATEVER THE INPUT: true; the input reads as it did. -/
def orderCyclesSpec : ChangeSpec := { name := "orderCycles", fn := fun _ => fun
  | [d] => { results := [.lit (.bool true)], args := [d] }
  | _ => none }
def orderCyclesRow : OpenClaim := { program := "ytnonncjndlcjgaa", sum := "c7a5e0110d52d6dfe70ccf03f5a28d34415d7e2d613d19d1fe5eaf1a0adb1f19", func := "tipstave/tipstavelaw14.OrderCycles", spec := "orderCycles", unfollowed := true, recurses := true, apart := false }
def OrderCyclesSaid : Prop := orderCyclesRow.holds Try.pinned (OpenSpec.ofChange orderCyclesSpec)

/-- ITS FALSE NEIGHBOUR: 'it returns false'. Refute it at one input. -/
def orderCyclesWrong : ChangeSpec := { name := "orderCycles", fn := fun _ => fun
  | [d] => { results := [.lit (.bool false)], args := [d] }
  | _ => none }
def OrderCyclesWrongFalsely : Prop := orderCyclesRow.holds Try.pinned (OpenSpec.ofChange orderCyclesWrong)

/-- 'tipstavelaw14.OrderReach': WHATEVER THE INPUT: true; the input reads as it did. -/
def orderReachSpec : ChangeSpec := { name := "orderReach", fn := fun _ => fun
  | [d1, d2] => { results := [.lit (.bool true)], args := [d1, d2] }
  | _ => none }
def orderReachRow : OpenClaim := { program := "ytnonncjndlcjgaa", sum := "c7a5e0110d52d6dfe70ccf03f5a28d34415d7e2d613d19d1fe5eaf1a0adb1f19", func := "tipstave/tipstavelaw14.OrderReach", spec := "orderReach", unfollowed := true, recurses := true, apart := false }
def OrderReachSaid : Prop := orderReachRow.holds Try.pinned (OpenSpec.ofChange orderReachSpec)

/-- ITS FALSE NEIGHBOUR: 'it returns false'. Refute it at one input. -/
def orderReachWrong : ChangeSpec := { name := "orderReach", fn := fun _ => fun
  | [d1, d2] => { results := [.lit (.bool false)], args := [d1, d2] }
  | _ => none }
def OrderReachWrongFalsely : Prop := orderReachRow.holds Try.pinned (OpenSpec.ofChange orderReachWrong)

/- THE SECOND FORM. 'bulk': how many values and letters a reading holds, each counted each time it is reached (what is shared counts as often as it is met; a slice's spare places count too). A statement '..UptoSaid' is the law's where the arguments, and the package variables that the reading takes, are together of bulk at most 1048576: NARROWER than '..Said'. Prove '..Said' where nothing that the law and all that it calls make is longer than what came in: it says more and counts as full. Else prove '..UptoSaid'. A law counts once. -/
mutual
def uptoBulk {H : Type} : DataW H → Nat
  | .lit (.string bytes) => bytes.length + 1
  | .lit _ => 1
  | .nil => 1
  | .ptr d => uptoBulk d + 1
  | .slice elems spare => uptoBulkAll elems + uptoBulkAll spare + 1
  | .agg parts => uptoBulkAll parts + 1
  | .iface _ d => uptoBulk d + 1
  | .map entries => uptoBulkEntries entries + 1
  | .held _ => 1
def uptoBulkAll {H : Type} : List (DataW H) → Nat
  | [] => 0
  | d :: r => uptoBulk d + uptoBulkAll r
def uptoBulkEntries {H : Type} : List (Lit × DataW H) → Nat
  | [] => 0
  | x :: r => uptoBulkEntry x + uptoBulkEntries r
def uptoBulkEntry {H : Type} : Lit × DataW H → Nat
  | (.string bytes, d) => bytes.length + uptoBulk d + 1
  | (_, d) => uptoBulk d + 1
 end
def uptoSmall : (H : Type) → List (DataW H) → Bool := fun _ ds => decide (uptoBulkAll ds ≤ 1048576)
def OpenSpec.upto (s : _root_.Go.ChangeSpec) : _root_.Go.OpenSpec := { _root_.Go.OpenSpec.ofChange s with cond := some uptoSmall }

/-- 'tipstavelaw14.OrderSorts', WHERE WHAT IT READS IS OF BULK AT MOST 1048576: true; the input reads as it did. -/
def orderSortsUptoRow : OpenClaim := { program := "ytnonncjndlcjgaa", sum := "c7a5e0110d52d6dfe70ccf03f5a28d34415d7e2d613d19d1fe5eaf1a0adb1f19", func := "tipstave/tipstavelaw14.OrderSorts", spec := "orderSorts", unfollowed := true, recurses := true, apart := false, narrowed := true }
def OrderSortsUptoSaid : Prop := orderSortsUptoRow.holds Try.pinned (OpenSpec.upto orderSortsSpec)

/-- 'tipstavelaw14.OrderNames', WHERE WHAT IT READS IS OF BULK AT MOST 1048576: true; the input reads as it did. -/
def orderNamesUptoRow : OpenClaim := { program := "ytnonncjndlcjgaa", sum := "c7a5e0110d52d6dfe70ccf03f5a28d34415d7e2d613d19d1fe5eaf1a0adb1f19", func := "tipstave/tipstavelaw14.OrderNames", spec := "orderNames", unfollowed := true, recurses := true, apart := false, narrowed := true }
def OrderNamesUptoSaid : Prop := orderNamesUptoRow.holds Try.pinned (OpenSpec.upto orderNamesSpec)

/-- 'tipstavelaw14.OrderBehind', WHERE WHAT IT READS IS OF BULK AT MOST 1048576: true; the input reads as it did. -/
def orderBehindUptoRow : OpenClaim := { program := "ytnonncjndlcjgaa", sum := "c7a5e0110d52d6dfe70ccf03f5a28d34415d7e2d613d19d1fe5eaf1a0adb1f19", func := "tipstave/tipstavelaw14.OrderBehind", spec := "orderBehind", unfollowed := true, recurses := true, apart := false, narrowed := true }
def OrderBehindUptoSaid : Prop := orderBehindUptoRow.holds Try.pinned (OpenSpec.upto orderBehindSpec)

/-- 'tipstavelaw14.OrderStuck', WHERE WHAT IT READS IS OF BULK AT MOST 1048576: true; the input reads as it did. -/
def orderStuckUptoRow : OpenClaim := { program := "ytnonncjndlcjgaa", sum := "c7a5e0110d52d6dfe70ccf03f5a28d34415d7e2d613d19d1fe5eaf1a0adb1f19", func := "tipstave/tipstavelaw14.OrderStuck", spec := "orderStuck", unfollowed := true, recurses := true, apart := false, narrowed := true }
def OrderStuckUptoSaid : Prop := orderStuckUptoRow.holds Try.pinned (OpenSpec.upto orderStuckSpec)

/-- 'tipstavelaw14.OrderCycles', WHERE WHAT IT READS IS OF BULK AT MOST 1048576: true; the input reads as it did. -/
def orderCyclesUptoRow : OpenClaim := { program := "ytnonncjndlcjgaa", sum := "c7a5e0110d52d6dfe70ccf03f5a28d34415d7e2d613d19d1fe5eaf1a0adb1f19", func := "tipstave/tipstavelaw14.OrderCycles", spec := "orderCycles", unfollowed := true, recurses := true, apart := false, narrowed := true }
def OrderCyclesUptoSaid : Prop := orderCyclesUptoRow.holds Try.pinned (OpenSpec.upto orderCyclesSpec)

/-- 'tipstavelaw14.OrderReach', WHERE WHAT IT READS IS OF BULK AT MOST 1048576: true; the input reads as it did. -/
def orderReachUptoRow : OpenClaim := { program := "ytnonncjndlcjgaa", sum := "c7a5e0110d52d6dfe70ccf03f5a28d34415d7e2d613d19d1fe5eaf1a0adb1f19", func := "tipstave/tipstavelaw14.OrderReach", spec := "orderReach", unfollowed := true, recurses := true, apart := false, narrowed := true }
def OrderReachUptoSaid : Prop := orderReachUptoRow.holds Try.pinned (OpenSpec.upto orderReachSpec)

end Rows
end Go.Proofs.Ytnonncjndlcjgaa
