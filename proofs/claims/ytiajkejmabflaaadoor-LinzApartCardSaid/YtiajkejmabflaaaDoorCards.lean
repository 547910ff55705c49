/-
  DERIVED. GIVEN WITH THE SEED: THE CARDS: each row of YtiajkejmabflaaaDoorRows.lean that lists a variable, with what it lists TIED to the program's text (the seventh form; the later family's looks); each row that meets fmt, with fmt's text TOLD by the authors' own Lean function (tested against real Go, not proved from fmt's source: count such statements apart). THE CARD IS WHAT COUNTS. Prove the row's statement (the work); the ties are given (YtiajkejmabflaaaDoorTie.lean); close each card by the builder's one call (the guide's Derived/Test/ToyasCard.lean, 'card_holds'). Laid BY PROGRAM, IN A SANDBOX (cutbox-door.mjs). By AI agents, Wed Nov 11 2026. No macro, syntax, notation, axiom, sorry.
-/
import Derived.Test.YtiajkejmabflaaaDoorRows
import GoSem.ClaimSeven
namespace Go.Proofs.YtiajkejmabflaaaDoor
namespace Rows

/-- THE TIED CARD OF 'lodgerlaw25.LinzGood'. -/
def linzGoodCard : Claim7 := { stood := { row := linzGoodRow, standIns := [], harness := (true, "a2ddf36cf0e14e472ee578affc42abcbeda0362807ec1942cf8550a32bc4e8b4"), looks := false }, kinds := [], alts := [], laidByText := true, laidKinds := [.data, .funcs], laidTests := true, laidLooks := .later }
def LinzGoodCardSaid : Prop := Claim7.holds Tryd.pinned (.plain (OpenSpec.ofChange linzGoodSpec)) linzGoodCard

/-- THE TIED CARD OF 'lodgerlaw25.LinzTurned'. -/
def linzTurnedCard : Claim7 := { stood := { row := linzTurnedRow, standIns := [], harness := (true, "a2ddf36cf0e14e472ee578affc42abcbeda0362807ec1942cf8550a32bc4e8b4"), looks := false }, kinds := [], alts := [], laidByText := true, laidKinds := [.data, .funcs], laidTests := true, laidLooks := .later }
def LinzTurnedCardSaid : Prop := Claim7.holds Tryd.pinned (.plain (OpenSpec.ofChange linzTurnedSpec)) linzTurnedCard

/-- THE TIED CARD OF 'lodgerlaw25.LinzApart'. -/
def linzApartCard : Claim7 := { stood := { row := linzApartRow, standIns := [], harness := (true, "a2ddf36cf0e14e472ee578affc42abcbeda0362807ec1942cf8550a32bc4e8b4"), looks := false }, kinds := [], alts := [], laidByText := true, laidKinds := [.data, .funcs], laidTests := true, laidLooks := .later }
def LinzApartCardSaid : Prop := Claim7.holds Tryd.pinned (.plain (OpenSpec.ofChange linzApartSpec)) linzApartCard

/-- THE SECOND FORM's CARD OF 'lodgerlaw25.LinzGood'. -/
def linzGoodUptoCard : Claim7 := { stood := { row := linzGoodUptoRow, standIns := [], harness := (true, "a2ddf36cf0e14e472ee578affc42abcbeda0362807ec1942cf8550a32bc4e8b4"), looks := false }, kinds := [], alts := [], laidByText := true, laidKinds := [.data, .funcs], laidTests := true, laidLooks := .later }
def LinzGoodUptoCardSaid : Prop := Claim7.holds Tryd.pinned (.plain (OpenSpec.upto linzGoodSpec)) linzGoodUptoCard

/-- THE SECOND FORM's CARD OF 'lodgerlaw25.LinzTurned'. -/
def linzTurnedUptoCard : Claim7 := { stood := { row := linzTurnedUptoRow, standIns := [], harness := (true, "a2ddf36cf0e14e472ee578affc42abcbeda0362807ec1942cf8550a32bc4e8b4"), looks := false }, kinds := [], alts := [], laidByText := true, laidKinds := [.data, .funcs], laidTests := true, laidLooks := .later }
def LinzTurnedUptoCardSaid : Prop := Claim7.holds Tryd.pinned (.plain (OpenSpec.upto linzTurnedSpec)) linzTurnedUptoCard

/-- THE SECOND FORM's CARD OF 'lodgerlaw25.LinzApart'. -/
def linzApartUptoCard : Claim7 := { stood := { row := linzApartUptoRow, standIns := [], harness := (true, "a2ddf36cf0e14e472ee578affc42abcbeda0362807ec1942cf8550a32bc4e8b4"), looks := false }, kinds := [], alts := [], laidByText := true, laidKinds := [.data, .funcs], laidTests := true, laidLooks := .later }
def LinzApartUptoCardSaid : Prop := Claim7.holds Tryd.pinned (.plain (OpenSpec.upto linzApartSpec)) linzApartUptoCard
end Rows
end Go.Proofs.YtiajkejmabflaaaDoor
