/-
  DERIVED. GIVEN WITH THE SEED: THE CARDS: each row of YtlmmgblghgmgeaaGreatDoorRows.lean that lists a variable, with what it lists TIED to the program's text (the seventh form; the later family's looks); each row that meets fmt, with fmt's text TOLD by the authors' own Lean function (tested against real Go, not proved from fmt's source: count such statements apart). THE CARD IS WHAT COUNTS. Prove the row's statement (the work); the ties are given (YtlmmgblghgmgeaaGreatDoorTie.lean); close each card by the builder's one call (the guide's Derived/Test/ToyasCard.lean, 'card_holds'). Laid BY PROGRAM, IN A SANDBOX (cutbox-door.mjs). By AI agents, Wed Nov 11 2026. No macro, syntax, notation, axiom, sorry.
-/
import Derived.Test.YtlmmgblghgmgeaaGreatDoorRows
import GoSem.ClaimSeven
namespace Go.Proofs.YtlmmgblghgmgeaaGreatDoor
namespace Rows

/-- THE TIED CARD OF 'stutterlaw01.TokensChecks'. -/
def tokensChecksCard : Claim7 := { stood := { row := tokensChecksRow, standIns := [], harness := (true, "82b6df560e3e66ff26c5ae73ac5a80ec1f39ec9e1c257a58c49eb3a81994e024"), looks := false }, kinds := [], alts := [], laidByText := true, laidKinds := [.data, .listed, .data, .pinned], laidTests := true, laidLooks := .later }
def TokensChecksCardSaid : Prop := Claim7.holds Tryz.pinned (.plain (OpenSpec.ofChange tokensChecksSpec)) tokensChecksCard

/-- THE TIED CARD OF 'stutterlaw01.TokensReads'. -/
def tokensReadsCard : Claim7 := { stood := { row := tokensReadsRow, standIns := [], harness := (true, "82b6df560e3e66ff26c5ae73ac5a80ec1f39ec9e1c257a58c49eb3a81994e024"), looks := false }, kinds := [], alts := [], laidByText := true, laidKinds := [.data, .listed, .data, .pinned], laidTests := true, laidLooks := .later }
def TokensReadsCardSaid : Prop := Claim7.holds Tryz.pinned (.plain (OpenSpec.ofChange tokensReadsSpec)) tokensReadsCard

/-- THE TIED CARD OF 'stutterlaw01.TokensPrints'. -/
def tokensPrintsCard : Claim7 := { stood := { row := tokensPrintsRow, standIns := [], harness := (true, "82b6df560e3e66ff26c5ae73ac5a80ec1f39ec9e1c257a58c49eb3a81994e024"), looks := false }, kinds := [], alts := [], laidByText := true, laidKinds := [.data, .listed, .data, .pinned], laidTests := true, laidLooks := .later }
def TokensPrintsCardSaid : Prop := Claim7.holds Tryz.pinned (.plain (OpenSpec.ofChange tokensPrintsSpec)) tokensPrintsCard

/-- THE TIED CARD OF 'stutterlaw01.TokensAgain'. -/
def tokensAgainCard : Claim7 := { stood := { row := tokensAgainRow, standIns := [], harness := (true, "82b6df560e3e66ff26c5ae73ac5a80ec1f39ec9e1c257a58c49eb3a81994e024"), looks := false }, kinds := [], alts := [], laidByText := true, laidKinds := [.data, .listed, .data, .pinned], laidTests := true, laidLooks := .later }
def TokensAgainCardSaid : Prop := Claim7.holds Tryz.pinned (.plain (OpenSpec.ofChange tokensAgainSpec)) tokensAgainCard

/-- THE TIED CARD OF 'stutterlaw01.TokensSpellings'. -/
def tokensSpellingsCard : Claim7 := { stood := { row := tokensSpellingsRow, standIns := [], harness := (true, "82b6df560e3e66ff26c5ae73ac5a80ec1f39ec9e1c257a58c49eb3a81994e024"), looks := false }, kinds := [], alts := [], laidByText := true, laidKinds := [.data, .listed, .data, .pinned], laidTests := true, laidLooks := .later }
def TokensSpellingsCardSaid : Prop := Claim7.holds Tryz.pinned (.plain (OpenSpec.ofChange tokensSpellingsSpec)) tokensSpellingsCard

/-- THE SECOND FORM's CARD OF 'stutterlaw01.TokensChecks'. -/
def tokensChecksUptoCard : Claim7 := { stood := { row := tokensChecksUptoRow, standIns := [], harness := (true, "82b6df560e3e66ff26c5ae73ac5a80ec1f39ec9e1c257a58c49eb3a81994e024"), looks := false }, kinds := [], alts := [], laidByText := true, laidKinds := [.data, .listed, .data, .pinned], laidTests := true, laidLooks := .later }
def TokensChecksUptoCardSaid : Prop := Claim7.holds Tryz.pinned (.plain (OpenSpec.upto tokensChecksSpec)) tokensChecksUptoCard

/-- THE SECOND FORM's CARD OF 'stutterlaw01.TokensReads'. -/
def tokensReadsUptoCard : Claim7 := { stood := { row := tokensReadsUptoRow, standIns := [], harness := (true, "82b6df560e3e66ff26c5ae73ac5a80ec1f39ec9e1c257a58c49eb3a81994e024"), looks := false }, kinds := [], alts := [], laidByText := true, laidKinds := [.data, .listed, .data, .pinned], laidTests := true, laidLooks := .later }
def TokensReadsUptoCardSaid : Prop := Claim7.holds Tryz.pinned (.plain (OpenSpec.upto tokensReadsSpec)) tokensReadsUptoCard

/-- THE SECOND FORM's CARD OF 'stutterlaw01.TokensPrints'. -/
def tokensPrintsUptoCard : Claim7 := { stood := { row := tokensPrintsUptoRow, standIns := [], harness := (true, "82b6df560e3e66ff26c5ae73ac5a80ec1f39ec9e1c257a58c49eb3a81994e024"), looks := false }, kinds := [], alts := [], laidByText := true, laidKinds := [.data, .listed, .data, .pinned], laidTests := true, laidLooks := .later }
def TokensPrintsUptoCardSaid : Prop := Claim7.holds Tryz.pinned (.plain (OpenSpec.upto tokensPrintsSpec)) tokensPrintsUptoCard

/-- THE SECOND FORM's CARD OF 'stutterlaw01.TokensAgain'. -/
def tokensAgainUptoCard : Claim7 := { stood := { row := tokensAgainUptoRow, standIns := [], harness := (true, "82b6df560e3e66ff26c5ae73ac5a80ec1f39ec9e1c257a58c49eb3a81994e024"), looks := false }, kinds := [], alts := [], laidByText := true, laidKinds := [.data, .listed, .data, .pinned], laidTests := true, laidLooks := .later }
def TokensAgainUptoCardSaid : Prop := Claim7.holds Tryz.pinned (.plain (OpenSpec.upto tokensAgainSpec)) tokensAgainUptoCard

/-- THE SECOND FORM's CARD OF 'stutterlaw01.TokensSpellings'. -/
def tokensSpellingsUptoCard : Claim7 := { stood := { row := tokensSpellingsUptoRow, standIns := [], harness := (true, "82b6df560e3e66ff26c5ae73ac5a80ec1f39ec9e1c257a58c49eb3a81994e024"), looks := false }, kinds := [], alts := [], laidByText := true, laidKinds := [.data, .listed, .data, .pinned], laidTests := true, laidLooks := .later }
def TokensSpellingsUptoCardSaid : Prop := Claim7.holds Tryz.pinned (.plain (OpenSpec.upto tokensSpellingsSpec)) tokensSpellingsUptoCard
end Rows
end Go.Proofs.YtlmmgblghgmgeaaGreatDoor
