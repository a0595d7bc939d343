/-
  DERIVED. GIVEN WITH THE SEED: THE CARDS: each row of YthlofckaljkhhaaDoorRows.lean that lists a variable, with what it lists TIED to the program's text (the seventh form; the later family's looks); each row that meets fmt, with fmt's text TOLD by the authors' own Lean function (tested against real Go, not proved from fmt's source: count such statements apart). THE CARD IS WHAT COUNTS. Prove the row's statement (the work); the ties are given (YthlofckaljkhhaaDoorTie.lean); close each card by the builder's one call (the guide's Derived/Test/ToyasCard.lean, 'card_holds'). Laid BY PROGRAM, IN A SANDBOX (cutbox-door.mjs). By AI agents, Wed Nov 11 2026. No macro, syntax, notation, axiom, sorry.
-/
import Derived.Test.YthlofckaljkhhaaDoorRows
import GoSem.ClaimSeven
namespace Go.Proofs.YthlofckaljkhhaaDoor
namespace Rows

/-- THE TIED CARD OF 'tipstavelaw01.UtfRunes'. -/
def utfRunesCard : Claim7 := { stood := { row := utfRunesRow, standIns := [], harness := (true, "ab63bb34b85d8b6f32fcf485e42c59fa3707370431de9887d5dd38355d649f67"), looks := false }, kinds := [], alts := [], laidByText := true, laidKinds := [.data, .pinned], laidTests := true, laidLooks := .later }
def UtfRunesCardSaid : Prop := Claim7.holds Tryd.pinned (.plain (OpenSpec.ofChange utfRunesSpec)) utfRunesCard

/-- THE TIED CARD OF 'tipstavelaw01.UtfKinds'. -/
def utfKindsCard : Claim7 := { stood := { row := utfKindsRow, standIns := [], harness := (true, "ab63bb34b85d8b6f32fcf485e42c59fa3707370431de9887d5dd38355d649f67"), looks := false }, kinds := [], alts := [], laidByText := true, laidKinds := [.data, .pinned], laidTests := true, laidLooks := .later }
def UtfKindsCardSaid : Prop := Claim7.holds Tryd.pinned (.plain (OpenSpec.ofChange utfKindsSpec)) utfKindsCard

/-- THE TIED CARD OF 'tipstavelaw01.UtfBack'. -/
def utfBackCard : Claim7 := { stood := { row := utfBackRow, standIns := [], harness := (true, "ab63bb34b85d8b6f32fcf485e42c59fa3707370431de9887d5dd38355d649f67"), looks := false }, kinds := [], alts := [], laidByText := true, laidKinds := [.data, .pinned], laidTests := true, laidLooks := .later }
def UtfBackCardSaid : Prop := Claim7.holds Tryd.pinned (.plain (OpenSpec.ofChange utfBackSpec)) utfBackCard

/-- THE TIED CARD OF 'tipstavelaw01.UtfTexts'. -/
def utfTextsCard : Claim7 := { stood := { row := utfTextsRow, standIns := [], harness := (true, "ab63bb34b85d8b6f32fcf485e42c59fa3707370431de9887d5dd38355d649f67"), looks := false }, kinds := [], alts := [], laidByText := true, laidKinds := [.data, .pinned], laidTests := true, laidLooks := .later }
def UtfTextsCardSaid : Prop := Claim7.holds Tryd.pinned (.plain (OpenSpec.ofChange utfTextsSpec)) utfTextsCard

/-- THE TIED CARD OF 'tipstavelaw01.UtfPlaces'. -/
def utfPlacesCard : Claim7 := { stood := { row := utfPlacesRow, standIns := [], harness := (true, "ab63bb34b85d8b6f32fcf485e42c59fa3707370431de9887d5dd38355d649f67"), looks := false }, kinds := [], alts := [], laidByText := true, laidKinds := [.data, .pinned], laidTests := true, laidLooks := .later }
def UtfPlacesCardSaid : Prop := Claim7.holds Tryd.pinned (.plain (OpenSpec.ofChange utfPlacesSpec)) utfPlacesCard

/-- THE TIED CARD OF 'tipstavelaw01.UtfChars'. -/
def utfCharsCard : Claim7 := { stood := { row := utfCharsRow, standIns := [], harness := (true, "ab63bb34b85d8b6f32fcf485e42c59fa3707370431de9887d5dd38355d649f67"), looks := false }, kinds := [], alts := [], laidByText := true, laidKinds := [.data, .pinned], laidTests := true, laidLooks := .later }
def UtfCharsCardSaid : Prop := Claim7.holds Tryd.pinned (.plain (OpenSpec.ofChange utfCharsSpec)) utfCharsCard

/-- THE SECOND FORM's CARD OF 'tipstavelaw01.UtfRunes'. -/
def utfRunesUptoCard : Claim7 := { stood := { row := utfRunesUptoRow, standIns := [], harness := (true, "ab63bb34b85d8b6f32fcf485e42c59fa3707370431de9887d5dd38355d649f67"), looks := false }, kinds := [], alts := [], laidByText := true, laidKinds := [.data, .pinned], laidTests := true, laidLooks := .later }
def UtfRunesUptoCardSaid : Prop := Claim7.holds Tryd.pinned (.plain (OpenSpec.upto utfRunesSpec)) utfRunesUptoCard

/-- THE SECOND FORM's CARD OF 'tipstavelaw01.UtfKinds'. -/
def utfKindsUptoCard : Claim7 := { stood := { row := utfKindsUptoRow, standIns := [], harness := (true, "ab63bb34b85d8b6f32fcf485e42c59fa3707370431de9887d5dd38355d649f67"), looks := false }, kinds := [], alts := [], laidByText := true, laidKinds := [.data, .pinned], laidTests := true, laidLooks := .later }
def UtfKindsUptoCardSaid : Prop := Claim7.holds Tryd.pinned (.plain (OpenSpec.upto utfKindsSpec)) utfKindsUptoCard

/-- THE SECOND FORM's CARD OF 'tipstavelaw01.UtfBack'. -/
def utfBackUptoCard : Claim7 := { stood := { row := utfBackUptoRow, standIns := [], harness := (true, "ab63bb34b85d8b6f32fcf485e42c59fa3707370431de9887d5dd38355d649f67"), looks := false }, kinds := [], alts := [], laidByText := true, laidKinds := [.data, .pinned], laidTests := true, laidLooks := .later }
def UtfBackUptoCardSaid : Prop := Claim7.holds Tryd.pinned (.plain (OpenSpec.upto utfBackSpec)) utfBackUptoCard

/-- THE SECOND FORM's CARD OF 'tipstavelaw01.UtfTexts'. -/
def utfTextsUptoCard : Claim7 := { stood := { row := utfTextsUptoRow, standIns := [], harness := (true, "ab63bb34b85d8b6f32fcf485e42c59fa3707370431de9887d5dd38355d649f67"), looks := false }, kinds := [], alts := [], laidByText := true, laidKinds := [.data, .pinned], laidTests := true, laidLooks := .later }
def UtfTextsUptoCardSaid : Prop := Claim7.holds Tryd.pinned (.plain (OpenSpec.upto utfTextsSpec)) utfTextsUptoCard

/-- THE SECOND FORM's CARD OF 'tipstavelaw01.UtfPlaces'. -/
def utfPlacesUptoCard : Claim7 := { stood := { row := utfPlacesUptoRow, standIns := [], harness := (true, "ab63bb34b85d8b6f32fcf485e42c59fa3707370431de9887d5dd38355d649f67"), looks := false }, kinds := [], alts := [], laidByText := true, laidKinds := [.data, .pinned], laidTests := true, laidLooks := .later }
def UtfPlacesUptoCardSaid : Prop := Claim7.holds Tryd.pinned (.plain (OpenSpec.upto utfPlacesSpec)) utfPlacesUptoCard

/-- THE SECOND FORM's CARD OF 'tipstavelaw01.UtfChars'. -/
def utfCharsUptoCard : Claim7 := { stood := { row := utfCharsUptoRow, standIns := [], harness := (true, "ab63bb34b85d8b6f32fcf485e42c59fa3707370431de9887d5dd38355d649f67"), looks := false }, kinds := [], alts := [], laidByText := true, laidKinds := [.data, .pinned], laidTests := true, laidLooks := .later }
def UtfCharsUptoCardSaid : Prop := Claim7.holds Tryd.pinned (.plain (OpenSpec.upto utfCharsSpec)) utfCharsUptoCard
end Rows
end Go.Proofs.YthlofckaljkhhaaDoor
