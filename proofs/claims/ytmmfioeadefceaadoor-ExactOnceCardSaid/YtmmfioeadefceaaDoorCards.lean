/-
  DERIVED. GIVEN WITH THE SEED: THE CARDS: each row of YtmmfioeadefceaaDoorRows.lean that lists a variable, with what it lists TIED to the program's text (the seventh form; the later family's looks); each row that meets fmt, with fmt's text TOLD by the authors' own Lean function (tested against real Go, not proved from fmt's source: count such statements apart). THE CARD IS WHAT COUNTS. Prove the row's statement (the work); the ties are given (YtmmfioeadefceaaDoorTie.lean); close each card by the builder's one call (the guide's Derived/Test/ToyasCard.lean, 'card_holds'). Laid BY PROGRAM, IN A SANDBOX (cutbox-door.mjs). By AI agents, Wed Nov 11 2026. No macro, syntax, notation, axiom, sorry.
-/
import Derived.Test.YtmmfioeadefceaaDoorRows
import GoSem.ClaimSeven
namespace Go.Proofs.YtmmfioeadefceaaDoor
namespace Rows

/-- THE TIED CARD OF 'lodgerlaw13.ClaimOne'. -/
def claimOneCard : Claim7 := { stood := { row := claimOneRow, standIns := [], harness := (true, "2a8b547b444b6eed4a412d8d8cd6e5b59638313391a435db7eafefc10dba5b5b"), looks := false }, kinds := [], alts := [], laidByText := true, laidKinds := [.funcs], laidTests := true, laidLooks := .later }
def ClaimOneCardSaid : Prop := Claim7.holds Tryd.pinned (.plain (OpenSpec.ofChange claimOneSpec)) claimOneCard

/-- THE TIED CARD OF 'lodgerlaw13.ClaimKeeps'. -/
def claimKeepsCard : Claim7 := { stood := { row := claimKeepsRow, standIns := [], harness := (true, "2a8b547b444b6eed4a412d8d8cd6e5b59638313391a435db7eafefc10dba5b5b"), looks := false }, kinds := [], alts := [], laidByText := true, laidKinds := [.funcs], laidTests := true, laidLooks := .later }
def ClaimKeepsCardSaid : Prop := Claim7.holds Tryd.pinned (.plain (OpenSpec.ofChange claimKeepsSpec)) claimKeepsCard

/-- THE TIED CARD OF 'lodgerlaw13.ClaimLook'. -/
def claimLookCard : Claim7 := { stood := { row := claimLookRow, standIns := [], harness := (true, "2a8b547b444b6eed4a412d8d8cd6e5b59638313391a435db7eafefc10dba5b5b"), looks := false }, kinds := [], alts := [], laidByText := true, laidKinds := [.funcs], laidTests := true, laidLooks := .later }
def ClaimLookCardSaid : Prop := Claim7.holds Tryd.pinned (.plain (OpenSpec.ofChange claimLookSpec)) claimLookCard

/-- THE TIED CARD OF 'lodgerlaw18.ExactSteps'. -/
def exactStepsCard : Claim7 := { stood := { row := exactStepsRow, standIns := [], harness := (true, "2a8b547b444b6eed4a412d8d8cd6e5b59638313391a435db7eafefc10dba5b5b"), looks := false }, kinds := [], alts := [], laidByText := true, laidKinds := [.funcs], laidTests := true, laidLooks := .later }
def ExactStepsCardSaid : Prop := Claim7.holds Tryd.pinned (.plain (OpenSpec.ofChange exactStepsSpec)) exactStepsCard

/-- THE TIED CARD OF 'lodgerlaw18.ExactOnce'. -/
def exactOnceCard : Claim7 := { stood := { row := exactOnceRow, standIns := [], harness := (true, "2a8b547b444b6eed4a412d8d8cd6e5b59638313391a435db7eafefc10dba5b5b"), looks := false }, kinds := [], alts := [], laidByText := true, laidKinds := [.funcs], laidTests := true, laidLooks := .later }
def ExactOnceCardSaid : Prop := Claim7.holds Tryd.pinned (.plain (OpenSpec.ofChange exactOnceSpec)) exactOnceCard

/-- THE TIED CARD OF 'lodgerlaw18.ExactAlone'. -/
def exactAloneCard : Claim7 := { stood := { row := exactAloneRow, standIns := [], harness := (true, "2a8b547b444b6eed4a412d8d8cd6e5b59638313391a435db7eafefc10dba5b5b"), looks := false }, kinds := [], alts := [], laidByText := true, laidKinds := [.funcs], laidTests := true, laidLooks := .later }
def ExactAloneCardSaid : Prop := Claim7.holds Tryd.pinned (.plain (OpenSpec.ofChange exactAloneSpec)) exactAloneCard

/-- THE TIED CARD OF 'lodgerlaw18.ExactTwo'. -/
def exactTwoCard : Claim7 := { stood := { row := exactTwoRow, standIns := [], harness := (true, "2a8b547b444b6eed4a412d8d8cd6e5b59638313391a435db7eafefc10dba5b5b"), looks := false }, kinds := [], alts := [], laidByText := true, laidKinds := [.funcs], laidTests := true, laidLooks := .later }
def ExactTwoCardSaid : Prop := Claim7.holds Tryd.pinned (.plain (OpenSpec.ofChange exactTwoSpec)) exactTwoCard

/-- THE SECOND FORM's CARD OF 'lodgerlaw13.ClaimOne'. -/
def claimOneUptoCard : Claim7 := { stood := { row := claimOneUptoRow, standIns := [], harness := (true, "2a8b547b444b6eed4a412d8d8cd6e5b59638313391a435db7eafefc10dba5b5b"), looks := false }, kinds := [], alts := [], laidByText := true, laidKinds := [.funcs], laidTests := true, laidLooks := .later }
def ClaimOneUptoCardSaid : Prop := Claim7.holds Tryd.pinned (.plain (OpenSpec.upto claimOneSpec)) claimOneUptoCard

/-- THE SECOND FORM's CARD OF 'lodgerlaw13.ClaimKeeps'. -/
def claimKeepsUptoCard : Claim7 := { stood := { row := claimKeepsUptoRow, standIns := [], harness := (true, "2a8b547b444b6eed4a412d8d8cd6e5b59638313391a435db7eafefc10dba5b5b"), looks := false }, kinds := [], alts := [], laidByText := true, laidKinds := [.funcs], laidTests := true, laidLooks := .later }
def ClaimKeepsUptoCardSaid : Prop := Claim7.holds Tryd.pinned (.plain (OpenSpec.upto claimKeepsSpec)) claimKeepsUptoCard

/-- THE SECOND FORM's CARD OF 'lodgerlaw13.ClaimLook'. -/
def claimLookUptoCard : Claim7 := { stood := { row := claimLookUptoRow, standIns := [], harness := (true, "2a8b547b444b6eed4a412d8d8cd6e5b59638313391a435db7eafefc10dba5b5b"), looks := false }, kinds := [], alts := [], laidByText := true, laidKinds := [.funcs], laidTests := true, laidLooks := .later }
def ClaimLookUptoCardSaid : Prop := Claim7.holds Tryd.pinned (.plain (OpenSpec.upto claimLookSpec)) claimLookUptoCard

/-- THE SECOND FORM's CARD OF 'lodgerlaw18.ExactSteps'. -/
def exactStepsUptoCard : Claim7 := { stood := { row := exactStepsUptoRow, standIns := [], harness := (true, "2a8b547b444b6eed4a412d8d8cd6e5b59638313391a435db7eafefc10dba5b5b"), looks := false }, kinds := [], alts := [], laidByText := true, laidKinds := [.funcs], laidTests := true, laidLooks := .later }
def ExactStepsUptoCardSaid : Prop := Claim7.holds Tryd.pinned (.plain (OpenSpec.upto exactStepsSpec)) exactStepsUptoCard

/-- THE SECOND FORM's CARD OF 'lodgerlaw18.ExactOnce'. -/
def exactOnceUptoCard : Claim7 := { stood := { row := exactOnceUptoRow, standIns := [], harness := (true, "2a8b547b444b6eed4a412d8d8cd6e5b59638313391a435db7eafefc10dba5b5b"), looks := false }, kinds := [], alts := [], laidByText := true, laidKinds := [.funcs], laidTests := true, laidLooks := .later }
def ExactOnceUptoCardSaid : Prop := Claim7.holds Tryd.pinned (.plain (OpenSpec.upto exactOnceSpec)) exactOnceUptoCard

/-- THE SECOND FORM's CARD OF 'lodgerlaw18.ExactAlone'. -/
def exactAloneUptoCard : Claim7 := { stood := { row := exactAloneUptoRow, standIns := [], harness := (true, "2a8b547b444b6eed4a412d8d8cd6e5b59638313391a435db7eafefc10dba5b5b"), looks := false }, kinds := [], alts := [], laidByText := true, laidKinds := [.funcs], laidTests := true, laidLooks := .later }
def ExactAloneUptoCardSaid : Prop := Claim7.holds Tryd.pinned (.plain (OpenSpec.upto exactAloneSpec)) exactAloneUptoCard

/-- THE SECOND FORM's CARD OF 'lodgerlaw18.ExactTwo'. -/
def exactTwoUptoCard : Claim7 := { stood := { row := exactTwoUptoRow, standIns := [], harness := (true, "2a8b547b444b6eed4a412d8d8cd6e5b59638313391a435db7eafefc10dba5b5b"), looks := false }, kinds := [], alts := [], laidByText := true, laidKinds := [.funcs], laidTests := true, laidLooks := .later }
def ExactTwoUptoCardSaid : Prop := Claim7.holds Tryd.pinned (.plain (OpenSpec.upto exactTwoSpec)) exactTwoUptoCard
end Rows
end Go.Proofs.YtmmfioeadefceaaDoor
