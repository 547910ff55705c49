/-
  DERIVED. GIVEN WITH THE SEED: THE CARDS: each row of YtolndkmjmlgcpaaDoorRows.lean that lists a variable, with what it lists TIED to the program's text (the seventh form; the later family's looks); each row that meets fmt, with fmt's text TOLD by the authors' own Lean function (tested against real Go, not proved from fmt's source: count such statements apart). THE CARD IS WHAT COUNTS. Prove the row's statement (the work); the ties are given (YtolndkmjmlgcpaaDoorTie.lean); close each card by the builder's one call (the guide's Derived/Test/ToyasCard.lean, 'card_holds'). Laid BY PROGRAM, IN A SANDBOX (cutbox-door.mjs). By AI agents, Wed Nov 11 2026. No macro, syntax, notation, axiom, sorry.
-/
import Derived.Test.YtolndkmjmlgcpaaDoorRows
import GoSem.ClaimSeven
namespace Go.Proofs.YtolndkmjmlgcpaaDoor
namespace Rows

/-- THE TIED CARD OF 'lodgerlaw28.TellPuts'. -/
def tellPutsCard : Claim7 := { stood := { row := tellPutsRow, standIns := [], harness := (true, "c1b47fc38a116e83360cfb16a616ff063b5271189e5f16727b5bdd1d888a053e"), looks := true }, kinds := [], alts := [], laidByText := true, laidKinds := [.data, .data, .data, .data, .sentinel, .sentinel, .pinned], laidTests := true, laidLooks := .later }
def TellPutsCardSaid : Prop := Claim7.holds Tryd.pinned (.plain (OpenSpec.ofChange tellPutsSpec)) tellPutsCard

/-- THE TIED CARD OF 'lodgerlaw28.TellBack'. -/
def tellBackCard : Claim7 := { stood := { row := tellBackRow, standIns := [], harness := (true, "c1b47fc38a116e83360cfb16a616ff063b5271189e5f16727b5bdd1d888a053e"), looks := true }, kinds := [], alts := [], laidByText := true, laidKinds := [.data, .data, .data, .data, .sentinel, .sentinel, .pinned], laidTests := true, laidLooks := .later }
def TellBackCardSaid : Prop := Claim7.holds Tryd.pinned (.plain (OpenSpec.ofChange tellBackSpec)) tellBackCard

/-- THE TIED CARD OF 'lodgerlaw28.TellLines'. -/
def tellLinesCard : Claim7 := { stood := { row := tellLinesRow, standIns := [], harness := (true, "c1b47fc38a116e83360cfb16a616ff063b5271189e5f16727b5bdd1d888a053e"), looks := true }, kinds := [], alts := [], laidByText := true, laidKinds := [.data, .data, .data, .data, .sentinel, .sentinel, .pinned], laidTests := true, laidLooks := .later }
def TellLinesCardSaid : Prop := Claim7.holds Tryd.pinned (.plain (OpenSpec.ofChange tellLinesSpec)) tellLinesCard

/-- THE TIED CARD OF 'lodgerlaw28.TellFields'. -/
def tellFieldsCard : Claim7 := { stood := { row := tellFieldsRow, standIns := [], harness := (true, "c1b47fc38a116e83360cfb16a616ff063b5271189e5f16727b5bdd1d888a053e"), looks := true }, kinds := [], alts := [], laidByText := true, laidKinds := [.data, .data, .data, .data, .sentinel, .sentinel, .pinned], laidTests := true, laidLooks := .later }
def TellFieldsCardSaid : Prop := Claim7.holds Tryd.pinned (.plain (OpenSpec.ofChange tellFieldsSpec)) tellFieldsCard

/-- THE SECOND FORM's CARD OF 'lodgerlaw28.TellPuts'. -/
def tellPutsUptoCard : Claim7 := { stood := { row := tellPutsUptoRow, standIns := [], harness := (true, "c1b47fc38a116e83360cfb16a616ff063b5271189e5f16727b5bdd1d888a053e"), looks := true }, kinds := [], alts := [], laidByText := true, laidKinds := [.data, .data, .data, .data, .sentinel, .sentinel, .pinned], laidTests := true, laidLooks := .later }
def TellPutsUptoCardSaid : Prop := Claim7.holds Tryd.pinned (.plain (OpenSpec.upto tellPutsSpec)) tellPutsUptoCard

/-- THE SECOND FORM's CARD OF 'lodgerlaw28.TellBack'. -/
def tellBackUptoCard : Claim7 := { stood := { row := tellBackUptoRow, standIns := [], harness := (true, "c1b47fc38a116e83360cfb16a616ff063b5271189e5f16727b5bdd1d888a053e"), looks := true }, kinds := [], alts := [], laidByText := true, laidKinds := [.data, .data, .data, .data, .sentinel, .sentinel, .pinned], laidTests := true, laidLooks := .later }
def TellBackUptoCardSaid : Prop := Claim7.holds Tryd.pinned (.plain (OpenSpec.upto tellBackSpec)) tellBackUptoCard

/-- THE SECOND FORM's CARD OF 'lodgerlaw28.TellLines'. -/
def tellLinesUptoCard : Claim7 := { stood := { row := tellLinesUptoRow, standIns := [], harness := (true, "c1b47fc38a116e83360cfb16a616ff063b5271189e5f16727b5bdd1d888a053e"), looks := true }, kinds := [], alts := [], laidByText := true, laidKinds := [.data, .data, .data, .data, .sentinel, .sentinel, .pinned], laidTests := true, laidLooks := .later }
def TellLinesUptoCardSaid : Prop := Claim7.holds Tryd.pinned (.plain (OpenSpec.upto tellLinesSpec)) tellLinesUptoCard

/-- THE SECOND FORM's CARD OF 'lodgerlaw28.TellFields'. -/
def tellFieldsUptoCard : Claim7 := { stood := { row := tellFieldsUptoRow, standIns := [], harness := (true, "c1b47fc38a116e83360cfb16a616ff063b5271189e5f16727b5bdd1d888a053e"), looks := true }, kinds := [], alts := [], laidByText := true, laidKinds := [.data, .data, .data, .data, .sentinel, .sentinel, .pinned], laidTests := true, laidLooks := .later }
def TellFieldsUptoCardSaid : Prop := Claim7.holds Tryd.pinned (.plain (OpenSpec.upto tellFieldsSpec)) tellFieldsUptoCard
end Rows
end Go.Proofs.YtolndkmjmlgcpaaDoor
