/-
  NARROWER THAN 'FOR EVERY INPUT', by the rows' own cells (each row's printed sentence says how): UtfRunes: laid · UtfKinds: laid · UtfBack: laid · UtfTexts: laid · UtfPlaces: laid · UtfChars: laid.
  DERIVED. THE GIVEN ROWS OF THIS SEAT. 6 by the template 'for every input the law returns true; each argument reads behind the call as it read before'; 0 by the template 'total and deterministic' (their statements: YthlofckaljkhhaaDoorTotals.lean).
  GIVEN WITH THE SEED: the statements are not yours to turn. If you find one false, say at which input.
  Laid BY PROGRAM, IN A SANDBOX (cutbox-rows.mjs): the forced cells as the released guide's own fill.sh prints them over the translation e5dd387407d96008… (all of the seat's roots in one cut). By AI agents, Wed Nov 11 2026. No macro, syntax, notation, axiom, sorry.
-/
import Derived.Test.YthlofckaljkhhaaDoorChecked
import GoSem.PinnedTables
import GoSem.Claim
import GoSem.ClaimJoined
import GoSem.ClaimMapViews
import Derived.JoinedTies
import Derived.KernelRfl
namespace Go.Proofs.YthlofckaljkhhaaDoor
/- THE CELL 'sum', in the pinned program and in every row, IS THE sha256 OF THE DUMP (.gsa) THAT YthlofckaljkhhaaDoorProg.lean LOADS. Nothing in Lean hashes anything: it is a label: what it is worth is what the hold of that sum in a sandbox is worth. -/
noncomputable def Tryd.pinned : Pinned := { name := "ythlofckaljkhhaadoor", sum := "e5dd387407d960082e25f7d6817187aeb2b085b40d92d8ed4d37cfd060056d9e", checked := Tryd.checked }
namespace Rows
def none {H : Type} : Left H := { results := [], args := [] }

/- WHAT THE LISTED PACKAGE-LEVEL VARIABLES READ AS WHEN THE CALL BEGINS. Each datum BY PROGRAM (the guide's laid-datum.mjs) off the statement by which the dump's own 'gosem.cut.vars' lays the variable. In a bare row this is a premise. The card (YthlofckaljkhhaaDoorCards.lean) ties it to the program's text. -/
def laid_unicode_utf8_acceptRanges {H : Type} : DataW H := .agg [.agg [.lit (.int .u8 128), .lit (.int .u8 191)], .agg [.lit (.int .u8 160), .lit (.int .u8 191)], .agg [.lit (.int .u8 128), .lit (.int .u8 159)], .agg [.lit (.int .u8 144), .lit (.int .u8 191)], .agg [.lit (.int .u8 128), .lit (.int .u8 143)], .agg [.lit (.int .u8 0), .lit (.int .u8 0)], .agg [.lit (.int .u8 0), .lit (.int .u8 0)], .agg [.lit (.int .u8 0), .lit (.int .u8 0)], .agg [.lit (.int .u8 0), .lit (.int .u8 0)], .agg [.lit (.int .u8 0), .lit (.int .u8 0)], .agg [.lit (.int .u8 0), .lit (.int .u8 0)], .agg [.lit (.int .u8 0), .lit (.int .u8 0)], .agg [.lit (.int .u8 0), .lit (.int .u8 0)], .agg [.lit (.int .u8 0), .lit (.int .u8 0)], .agg [.lit (.int .u8 0), .lit (.int .u8 0)], .agg [.lit (.int .u8 0), .lit (.int .u8 0)]]
/-- One of Go's own tables, pinned by name: the form's constant. -/
def laid_unicode_utf8_first : DataW Unit := Go.Pinned.utf8First

/-- 'tipstavelaw01.UtfRunes': WHATEVER THE INPUT: true; the input reads as it did. -/
def utfRunesSpec : ChangeSpec := { name := "utfRunes", fn := fun _ => fun
  | [d1, d2] => { results := [.lit (.bool true)], args := [d1, d2] }
  | _ => none }
def utfRunesRow : OpenClaim := { program := "ythlofckaljkhhaadoor", sum := "e5dd387407d960082e25f7d6817187aeb2b085b40d92d8ed4d37cfd060056d9e", func := "tipstave/tipstavelaw01.UtfRunes", spec := "utfRunes", named := ["unicode/utf8.first", "unicode/utf8.acceptRanges"], apart := false, laid := [("unicode/utf8.acceptRanges", laid_unicode_utf8_acceptRanges), ("unicode/utf8.first", laid_unicode_utf8_first)] }
def UtfRunesSaid : Prop := utfRunesRow.holds Tryd.pinned (OpenSpec.ofChange utfRunesSpec)

/-- ITS FALSE NEIGHBOUR: 'it returns false'. Refute it at one input. -/
def utfRunesWrong : ChangeSpec := { name := "utfRunes", fn := fun _ => fun
  | [d1, d2] => { results := [.lit (.bool false)], args := [d1, d2] }
  | _ => none }
def UtfRunesWrongFalsely : Prop := utfRunesRow.holds Tryd.pinned (OpenSpec.ofChange utfRunesWrong)

/-- 'tipstavelaw01.UtfKinds': WHATEVER THE INPUT: true; the input reads as it did. -/
def utfKindsSpec : ChangeSpec := { name := "utfKinds", fn := fun _ => fun
  | [d] => { results := [.lit (.bool true)], args := [d] }
  | _ => none }
def utfKindsRow : OpenClaim := { program := "ythlofckaljkhhaadoor", sum := "e5dd387407d960082e25f7d6817187aeb2b085b40d92d8ed4d37cfd060056d9e", func := "tipstave/tipstavelaw01.UtfKinds", spec := "utfKinds", named := ["unicode/utf8.first", "unicode/utf8.acceptRanges"], apart := false, laid := [("unicode/utf8.acceptRanges", laid_unicode_utf8_acceptRanges), ("unicode/utf8.first", laid_unicode_utf8_first)] }
def UtfKindsSaid : Prop := utfKindsRow.holds Tryd.pinned (OpenSpec.ofChange utfKindsSpec)

/-- ITS FALSE NEIGHBOUR: 'it returns false'. Refute it at one input. -/
def utfKindsWrong : ChangeSpec := { name := "utfKinds", fn := fun _ => fun
  | [d] => { results := [.lit (.bool false)], args := [d] }
  | _ => none }
def UtfKindsWrongFalsely : Prop := utfKindsRow.holds Tryd.pinned (OpenSpec.ofChange utfKindsWrong)

/-- 'tipstavelaw01.UtfBack': WHATEVER THE INPUT: true; the input reads as it did. -/
def utfBackSpec : ChangeSpec := { name := "utfBack", fn := fun _ => fun
  | [d1, d2, d3] => { results := [.lit (.bool true)], args := [d1, d2, d3] }
  | _ => none }
def utfBackRow : OpenClaim := { program := "ythlofckaljkhhaadoor", sum := "e5dd387407d960082e25f7d6817187aeb2b085b40d92d8ed4d37cfd060056d9e", func := "tipstave/tipstavelaw01.UtfBack", spec := "utfBack", named := ["unicode/utf8.first", "unicode/utf8.acceptRanges"], apart := false, laid := [("unicode/utf8.acceptRanges", laid_unicode_utf8_acceptRanges), ("unicode/utf8.first", laid_unicode_utf8_first)] }
def UtfBackSaid : Prop := utfBackRow.holds Tryd.pinned (OpenSpec.ofChange utfBackSpec)

/-- ITS FALSE NEIGHBOUR: 'it returns false'. Refute it at one input. -/
def utfBackWrong : ChangeSpec := { name := "utfBack", fn := fun _ => fun
  | [d1, d2, d3] => { results := [.lit (.bool false)], args := [d1, d2, d3] }
  | _ => none }
def UtfBackWrongFalsely : Prop := utfBackRow.holds Tryd.pinned (OpenSpec.ofChange utfBackWrong)

/-- 'tipstavelaw01.UtfTexts': WHATEVER THE INPUT: true; the input reads as it did. -/
def utfTextsSpec : ChangeSpec := { name := "utfTexts", fn := fun _ => fun
  | [d1, d2] => { results := [.lit (.bool true)], args := [d1, d2] }
  | _ => none }
def utfTextsRow : OpenClaim := { program := "ythlofckaljkhhaadoor", sum := "e5dd387407d960082e25f7d6817187aeb2b085b40d92d8ed4d37cfd060056d9e", func := "tipstave/tipstavelaw01.UtfTexts", spec := "utfTexts", named := ["unicode/utf8.first", "unicode/utf8.acceptRanges"], apart := false, laid := [("unicode/utf8.acceptRanges", laid_unicode_utf8_acceptRanges), ("unicode/utf8.first", laid_unicode_utf8_first)] }
def UtfTextsSaid : Prop := utfTextsRow.holds Tryd.pinned (OpenSpec.ofChange utfTextsSpec)

/-- ITS FALSE NEIGHBOUR: 'it returns false'. Refute it at one input. -/
def utfTextsWrong : ChangeSpec := { name := "utfTexts", fn := fun _ => fun
  | [d1, d2] => { results := [.lit (.bool false)], args := [d1, d2] }
  | _ => none }
def UtfTextsWrongFalsely : Prop := utfTextsRow.holds Tryd.pinned (OpenSpec.ofChange utfTextsWrong)

/-- 'tipstavelaw01.UtfPlaces': WHATEVER THE INPUT: true; the input reads as it did. -/
def utfPlacesSpec : ChangeSpec := { name := "utfPlaces", fn := fun _ => fun
  | [d1, d2] => { results := [.lit (.bool true)], args := [d1, d2] }
  | _ => none }
def utfPlacesRow : OpenClaim := { program := "ythlofckaljkhhaadoor", sum := "e5dd387407d960082e25f7d6817187aeb2b085b40d92d8ed4d37cfd060056d9e", func := "tipstave/tipstavelaw01.UtfPlaces", spec := "utfPlaces", named := ["unicode/utf8.first", "unicode/utf8.acceptRanges"], apart := false, laid := [("unicode/utf8.acceptRanges", laid_unicode_utf8_acceptRanges), ("unicode/utf8.first", laid_unicode_utf8_first)] }
def UtfPlacesSaid : Prop := utfPlacesRow.holds Tryd.pinned (OpenSpec.ofChange utfPlacesSpec)

/-- ITS FALSE NEIGHBOUR: 'it returns false'. Refute it at one input. -/
def utfPlacesWrong : ChangeSpec := { name := "utfPlaces", fn := fun _ => fun
  | [d1, d2] => { results := [.lit (.bool false)], args := [d1, d2] }
  | _ => none }
def UtfPlacesWrongFalsely : Prop := utfPlacesRow.holds Tryd.pinned (OpenSpec.ofChange utfPlacesWrong)

/-- 'tipstavelaw01.UtfChars': WHATEVER THE INPUT: true; the input reads as it did. -/
def utfCharsSpec : ChangeSpec := { name := "utfChars", fn := fun _ => fun
  | [d] => { results := [.lit (.bool true)], args := [d] }
  | _ => none }
def utfCharsRow : OpenClaim := { program := "ythlofckaljkhhaadoor", sum := "e5dd387407d960082e25f7d6817187aeb2b085b40d92d8ed4d37cfd060056d9e", func := "tipstave/tipstavelaw01.UtfChars", spec := "utfChars", named := ["unicode/utf8.first", "unicode/utf8.acceptRanges"], apart := false, laid := [("unicode/utf8.acceptRanges", laid_unicode_utf8_acceptRanges), ("unicode/utf8.first", laid_unicode_utf8_first)] }
def UtfCharsSaid : Prop := utfCharsRow.holds Tryd.pinned (OpenSpec.ofChange utfCharsSpec)

/-- ITS FALSE NEIGHBOUR: 'it returns false'. Refute it at one input. -/
def utfCharsWrong : ChangeSpec := { name := "utfChars", fn := fun _ => fun
  | [d] => { results := [.lit (.bool false)], args := [d] }
  | _ => none }
def UtfCharsWrongFalsely : Prop := utfCharsRow.holds Tryd.pinned (OpenSpec.ofChange utfCharsWrong)

/- THE SECOND FORM. 'bulk': how many values and letters a reading holds, each counted each time it is reached (what is shared counts as often as it is met; a slice's spare places count too). A statement '..UptoSaid' is the law's where the arguments, and the package variables that the reading takes, are together of bulk at most 1048576: NARROWER than '..Said'. Prove '..Said' where nothing that the law and all that it calls make is longer than what came in: it says more and counts as full. Else prove '..UptoSaid'. A law counts once. -/
mutual
def uptoBulk {H : Type} : DataW H → Nat
  | .lit (.string bytes) => bytes.length + 1
  | .lit _ => 1
  | .nil => 1
  | .ptr d => uptoBulk d + 1
  | .slice elems spare => uptoBulkAll elems + uptoBulkAll spare + 1
  | .agg parts => uptoBulkAll parts + 1
  | .iface _ d => uptoBulk d + 1
  | .map entries => uptoBulkEntries entries + 1
  | .held _ => 1
def uptoBulkAll {H : Type} : List (DataW H) → Nat
  | [] => 0
  | d :: r => uptoBulk d + uptoBulkAll r
def uptoBulkEntries {H : Type} : List (Lit × DataW H) → Nat
  | [] => 0
  | x :: r => uptoBulkEntry x + uptoBulkEntries r
def uptoBulkEntry {H : Type} : Lit × DataW H → Nat
  | (.string bytes, d) => bytes.length + uptoBulk d + 1
  | (_, d) => uptoBulk d + 1
 end
def uptoSmall : (H : Type) → List (DataW H) → Bool := fun _ ds => decide (uptoBulkAll ds ≤ 1048576)
def OpenSpec.upto (s : _root_.Go.ChangeSpec) : _root_.Go.OpenSpec := { _root_.Go.OpenSpec.ofChange s with cond := some uptoSmall }

/-- 'tipstavelaw01.UtfRunes', WHERE WHAT IT READS IS OF BULK AT MOST 1048576: true; the input reads as it did. -/
def utfRunesUptoRow : OpenClaim := { program := "ythlofckaljkhhaadoor", sum := "e5dd387407d960082e25f7d6817187aeb2b085b40d92d8ed4d37cfd060056d9e", func := "tipstave/tipstavelaw01.UtfRunes", spec := "utfRunes", named := ["unicode/utf8.first", "unicode/utf8.acceptRanges"], apart := false, laid := [("unicode/utf8.acceptRanges", laid_unicode_utf8_acceptRanges), ("unicode/utf8.first", laid_unicode_utf8_first)], narrowed := true }
def UtfRunesUptoSaid : Prop := utfRunesUptoRow.holds Tryd.pinned (OpenSpec.upto utfRunesSpec)

/-- 'tipstavelaw01.UtfKinds', WHERE WHAT IT READS IS OF BULK AT MOST 1048576: true; the input reads as it did. -/
def utfKindsUptoRow : OpenClaim := { program := "ythlofckaljkhhaadoor", sum := "e5dd387407d960082e25f7d6817187aeb2b085b40d92d8ed4d37cfd060056d9e", func := "tipstave/tipstavelaw01.UtfKinds", spec := "utfKinds", named := ["unicode/utf8.first", "unicode/utf8.acceptRanges"], apart := false, laid := [("unicode/utf8.acceptRanges", laid_unicode_utf8_acceptRanges), ("unicode/utf8.first", laid_unicode_utf8_first)], narrowed := true }
def UtfKindsUptoSaid : Prop := utfKindsUptoRow.holds Tryd.pinned (OpenSpec.upto utfKindsSpec)

/-- 'tipstavelaw01.UtfBack', WHERE WHAT IT READS IS OF BULK AT MOST 1048576: true; the input reads as it did. -/
def utfBackUptoRow : OpenClaim := { program := "ythlofckaljkhhaadoor", sum := "e5dd387407d960082e25f7d6817187aeb2b085b40d92d8ed4d37cfd060056d9e", func := "tipstave/tipstavelaw01.UtfBack", spec := "utfBack", named := ["unicode/utf8.first", "unicode/utf8.acceptRanges"], apart := false, laid := [("unicode/utf8.acceptRanges", laid_unicode_utf8_acceptRanges), ("unicode/utf8.first", laid_unicode_utf8_first)], narrowed := true }
def UtfBackUptoSaid : Prop := utfBackUptoRow.holds Tryd.pinned (OpenSpec.upto utfBackSpec)

/-- 'tipstavelaw01.UtfTexts', WHERE WHAT IT READS IS OF BULK AT MOST 1048576: true; the input reads as it did. -/
def utfTextsUptoRow : OpenClaim := { program := "ythlofckaljkhhaadoor", sum := "e5dd387407d960082e25f7d6817187aeb2b085b40d92d8ed4d37cfd060056d9e", func := "tipstave/tipstavelaw01.UtfTexts", spec := "utfTexts", named := ["unicode/utf8.first", "unicode/utf8.acceptRanges"], apart := false, laid := [("unicode/utf8.acceptRanges", laid_unicode_utf8_acceptRanges), ("unicode/utf8.first", laid_unicode_utf8_first)], narrowed := true }
def UtfTextsUptoSaid : Prop := utfTextsUptoRow.holds Tryd.pinned (OpenSpec.upto utfTextsSpec)

/-- 'tipstavelaw01.UtfPlaces', WHERE WHAT IT READS IS OF BULK AT MOST 1048576: true; the input reads as it did. -/
def utfPlacesUptoRow : OpenClaim := { program := "ythlofckaljkhhaadoor", sum := "e5dd387407d960082e25f7d6817187aeb2b085b40d92d8ed4d37cfd060056d9e", func := "tipstave/tipstavelaw01.UtfPlaces", spec := "utfPlaces", named := ["unicode/utf8.first", "unicode/utf8.acceptRanges"], apart := false, laid := [("unicode/utf8.acceptRanges", laid_unicode_utf8_acceptRanges), ("unicode/utf8.first", laid_unicode_utf8_first)], narrowed := true }
def UtfPlacesUptoSaid : Prop := utfPlacesUptoRow.holds Tryd.pinned (OpenSpec.upto utfPlacesSpec)

/-- 'tipstavelaw01.UtfChars', WHERE WHAT IT READS IS OF BULK AT MOST 1048576: true; the input reads as it did. -/
def utfCharsUptoRow : OpenClaim := { program := "ythlofckaljkhhaadoor", sum := "e5dd387407d960082e25f7d6817187aeb2b085b40d92d8ed4d37cfd060056d9e", func := "tipstave/tipstavelaw01.UtfChars", spec := "utfChars", named := ["unicode/utf8.first", "unicode/utf8.acceptRanges"], apart := false, laid := [("unicode/utf8.acceptRanges", laid_unicode_utf8_acceptRanges), ("unicode/utf8.first", laid_unicode_utf8_first)], narrowed := true }
def UtfCharsUptoSaid : Prop := utfCharsUptoRow.holds Tryd.pinned (OpenSpec.upto utfCharsSpec)

end Rows
end Go.Proofs.YthlofckaljkhhaaDoor
