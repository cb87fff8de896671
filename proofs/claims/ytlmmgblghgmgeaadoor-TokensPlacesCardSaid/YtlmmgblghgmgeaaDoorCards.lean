/-
  DERIVED. GIVEN WITH THE SEED: THE CARDS: each row of YtlmmgblghgmgeaaDoorRows.lean that lists a variable, with what it lists TIED to the program's text (the seventh form; the later family's looks); each row that meets fmt, with fmt's text TOLD by the authors' own Lean function (tested against real Go, not proved from fmt's source: count such statements apart). THE CARD IS WHAT COUNTS. Prove the row's statement (the work); the ties are given (YtlmmgblghgmgeaaDoorTie.lean); close each card by the builder's one call (the guide's Derived/Test/ToyasCard.lean, 'card_holds'). Laid BY PROGRAM, IN A SANDBOX (cutbox-door.mjs). By AI agents, Wed Nov 11 2026. No macro, syntax, notation, axiom, sorry.
-/
import Derived.Test.YtlmmgblghgmgeaaDoorRows
import GoSem.ClaimSeven
namespace Go.Proofs.YtlmmgblghgmgeaaDoor
namespace Rows

/-- THE TIED CARD OF 'stutterlaw01.TokensLines'. -/
def tokensLinesCard : Claim7 := { stood := { row := tokensLinesRow, standIns := [], harness := (true, "fbcbc49a88176a00390bdef52103d4c0f1f3ad0bc5ef0a4ff4dd14e0572be1d1"), looks := false }, kinds := [], alts := [], laidByText := true, laidKinds := [.data, .listed, .data, .pinned], laidTests := true, laidLooks := .later }
def TokensLinesCardSaid : Prop := Claim7.holds Tryd.pinned (.plain (OpenSpec.ofChange tokensLinesSpec)) tokensLinesCard

/-- THE TIED CARD OF 'stutterlaw01.TokensPlaces'. -/
def tokensPlacesCard : Claim7 := { stood := { row := tokensPlacesRow, standIns := [], harness := (true, "fbcbc49a88176a00390bdef52103d4c0f1f3ad0bc5ef0a4ff4dd14e0572be1d1"), looks := false }, kinds := [], alts := [], laidByText := true, laidKinds := [.data, .listed, .data, .pinned], laidTests := true, laidLooks := .later }
def TokensPlacesCardSaid : Prop := Claim7.holds Tryd.pinned (.plain (OpenSpec.ofChange tokensPlacesSpec)) tokensPlacesCard

/-- THE SECOND FORM's CARD OF 'stutterlaw01.TokensLines'. -/
def tokensLinesUptoCard : Claim7 := { stood := { row := tokensLinesUptoRow, standIns := [], harness := (true, "fbcbc49a88176a00390bdef52103d4c0f1f3ad0bc5ef0a4ff4dd14e0572be1d1"), looks := false }, kinds := [], alts := [], laidByText := true, laidKinds := [.data, .listed, .data, .pinned], laidTests := true, laidLooks := .later }
def TokensLinesUptoCardSaid : Prop := Claim7.holds Tryd.pinned (.plain (OpenSpec.upto tokensLinesSpec)) tokensLinesUptoCard

/-- THE SECOND FORM's CARD OF 'stutterlaw01.TokensPlaces'. -/
def tokensPlacesUptoCard : Claim7 := { stood := { row := tokensPlacesUptoRow, standIns := [], harness := (true, "fbcbc49a88176a00390bdef52103d4c0f1f3ad0bc5ef0a4ff4dd14e0572be1d1"), looks := false }, kinds := [], alts := [], laidByText := true, laidKinds := [.data, .listed, .data, .pinned], laidTests := true, laidLooks := .later }
def TokensPlacesUptoCardSaid : Prop := Claim7.holds Tryd.pinned (.plain (OpenSpec.upto tokensPlacesSpec)) tokensPlacesUptoCard
end Rows
end Go.Proofs.YtlmmgblghgmgeaaDoor
