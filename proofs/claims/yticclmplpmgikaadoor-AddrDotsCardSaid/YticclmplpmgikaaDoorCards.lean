/-
  DERIVED. GIVEN WITH THE SEED: THE CARDS: each row of YticclmplpmgikaaDoorRows.lean that lists a variable, with what it lists TIED to the program's text (the seventh form; the later family's looks); each row that meets fmt, with fmt's text TOLD by the authors' own Lean function (tested against real Go, not proved from fmt's source: count such statements apart). THE CARD IS WHAT COUNTS. Prove the row's statement (the work); the ties are given (YticclmplpmgikaaDoorTie.lean); close each card by the builder's one call (the guide's Derived/Test/ToyasCard.lean, 'card_holds'). Laid BY PROGRAM, IN A SANDBOX (cutbox-door.mjs). By AI agents, Wed Nov 11 2026. No macro, syntax, notation, axiom, sorry.
-/
import Derived.Test.YticclmplpmgikaaDoorRows
import GoSem.ClaimSeven
namespace Go.Proofs.YticclmplpmgikaaDoor
namespace Rows

/-- THE TIED CARD OF 'lodgerlaw04.AddrTexts'. -/
def addrTextsCard : Claim7 := { stood := { row := addrTextsRow, standIns := [], harness := (true, "7fb0621b10c21ca19528b662f47bdb7785d1dd5083b6ce1cc283be455bd3b5f9"), looks := true }, kinds := [], alts := [], laidByText := true, laidKinds := [.data, .data, .data, .data, .sentinel, .sentinel, .pinned], laidTests := true, laidLooks := .later }
def AddrTextsCardSaid : Prop := Claim7.holds Tryd.pinned (.plain (OpenSpec.ofChange addrTextsSpec)) addrTextsCard

/-- THE TIED CARD OF 'lodgerlaw04.AddrBack'. -/
def addrBackCard : Claim7 := { stood := { row := addrBackRow, standIns := [], harness := (true, "7fb0621b10c21ca19528b662f47bdb7785d1dd5083b6ce1cc283be455bd3b5f9"), looks := true }, kinds := [], alts := [], laidByText := true, laidKinds := [.data, .data, .data, .data, .sentinel, .sentinel, .pinned], laidTests := true, laidLooks := .later }
def AddrBackCardSaid : Prop := Claim7.holds Tryd.pinned (.plain (OpenSpec.ofChange addrBackSpec)) addrBackCard

/-- THE TIED CARD OF 'lodgerlaw04.AddrBlocks'. -/
def addrBlocksCard : Claim7 := { stood := { row := addrBlocksRow, standIns := [], harness := (true, "7fb0621b10c21ca19528b662f47bdb7785d1dd5083b6ce1cc283be455bd3b5f9"), looks := true }, kinds := [], alts := [], laidByText := true, laidKinds := [.data, .data, .data, .data, .sentinel, .sentinel, .pinned], laidTests := true, laidLooks := .later }
def AddrBlocksCardSaid : Prop := Claim7.holds Tryd.pinned (.plain (OpenSpec.ofChange addrBlocksSpec)) addrBlocksCard

/-- THE TIED CARD OF 'lodgerlaw04.AddrDots'. -/
def addrDotsCard : Claim7 := { stood := { row := addrDotsRow, standIns := [], harness := (true, "7fb0621b10c21ca19528b662f47bdb7785d1dd5083b6ce1cc283be455bd3b5f9"), looks := true }, kinds := [], alts := [], laidByText := true, laidKinds := [.data, .data, .data, .data, .sentinel, .sentinel, .pinned], laidTests := true, laidLooks := .later }
def AddrDotsCardSaid : Prop := Claim7.holds Tryd.pinned (.plain (OpenSpec.ofChange addrDotsSpec)) addrDotsCard

/-- THE TIED CARD OF 'lodgerlaw04.AddrParts'. -/
def addrPartsCard : Claim7 := { stood := { row := addrPartsRow, standIns := [], harness := (true, "7fb0621b10c21ca19528b662f47bdb7785d1dd5083b6ce1cc283be455bd3b5f9"), looks := true }, kinds := [], alts := [], laidByText := true, laidKinds := [.data, .data, .data, .data, .sentinel, .sentinel, .pinned], laidTests := true, laidLooks := .later }
def AddrPartsCardSaid : Prop := Claim7.holds Tryd.pinned (.plain (OpenSpec.ofChange addrPartsSpec)) addrPartsCard

/-- THE SECOND FORM's CARD OF 'lodgerlaw04.AddrTexts'. -/
def addrTextsUptoCard : Claim7 := { stood := { row := addrTextsUptoRow, standIns := [], harness := (true, "7fb0621b10c21ca19528b662f47bdb7785d1dd5083b6ce1cc283be455bd3b5f9"), looks := true }, kinds := [], alts := [], laidByText := true, laidKinds := [.data, .data, .data, .data, .sentinel, .sentinel, .pinned], laidTests := true, laidLooks := .later }
def AddrTextsUptoCardSaid : Prop := Claim7.holds Tryd.pinned (.plain (OpenSpec.upto addrTextsSpec)) addrTextsUptoCard

/-- THE SECOND FORM's CARD OF 'lodgerlaw04.AddrBack'. -/
def addrBackUptoCard : Claim7 := { stood := { row := addrBackUptoRow, standIns := [], harness := (true, "7fb0621b10c21ca19528b662f47bdb7785d1dd5083b6ce1cc283be455bd3b5f9"), looks := true }, kinds := [], alts := [], laidByText := true, laidKinds := [.data, .data, .data, .data, .sentinel, .sentinel, .pinned], laidTests := true, laidLooks := .later }
def AddrBackUptoCardSaid : Prop := Claim7.holds Tryd.pinned (.plain (OpenSpec.upto addrBackSpec)) addrBackUptoCard

/-- THE SECOND FORM's CARD OF 'lodgerlaw04.AddrBlocks'. -/
def addrBlocksUptoCard : Claim7 := { stood := { row := addrBlocksUptoRow, standIns := [], harness := (true, "7fb0621b10c21ca19528b662f47bdb7785d1dd5083b6ce1cc283be455bd3b5f9"), looks := true }, kinds := [], alts := [], laidByText := true, laidKinds := [.data, .data, .data, .data, .sentinel, .sentinel, .pinned], laidTests := true, laidLooks := .later }
def AddrBlocksUptoCardSaid : Prop := Claim7.holds Tryd.pinned (.plain (OpenSpec.upto addrBlocksSpec)) addrBlocksUptoCard

/-- THE SECOND FORM's CARD OF 'lodgerlaw04.AddrDots'. -/
def addrDotsUptoCard : Claim7 := { stood := { row := addrDotsUptoRow, standIns := [], harness := (true, "7fb0621b10c21ca19528b662f47bdb7785d1dd5083b6ce1cc283be455bd3b5f9"), looks := true }, kinds := [], alts := [], laidByText := true, laidKinds := [.data, .data, .data, .data, .sentinel, .sentinel, .pinned], laidTests := true, laidLooks := .later }
def AddrDotsUptoCardSaid : Prop := Claim7.holds Tryd.pinned (.plain (OpenSpec.upto addrDotsSpec)) addrDotsUptoCard

/-- THE SECOND FORM's CARD OF 'lodgerlaw04.AddrParts'. -/
def addrPartsUptoCard : Claim7 := { stood := { row := addrPartsUptoRow, standIns := [], harness := (true, "7fb0621b10c21ca19528b662f47bdb7785d1dd5083b6ce1cc283be455bd3b5f9"), looks := true }, kinds := [], alts := [], laidByText := true, laidKinds := [.data, .data, .data, .data, .sentinel, .sentinel, .pinned], laidTests := true, laidLooks := .later }
def AddrPartsUptoCardSaid : Prop := Claim7.holds Tryd.pinned (.plain (OpenSpec.upto addrPartsSpec)) addrPartsUptoCard
end Rows
end Go.Proofs.YticclmplpmgikaaDoor
