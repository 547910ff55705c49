/-
  NARROWER THAN 'FOR EVERY INPUT', by the rows' own cells (each row's printed sentence says how): ClaimOne: laid · ClaimKeeps: laid · ClaimLook: laid · ExactSteps: laid · ExactOnce: laid · ExactAlone: laid · ExactTwo: laid.
  DERIVED. THE GIVEN ROWS OF THIS SEAT. 7 by the template 'for every input the law returns true; each argument reads behind the call as it read before'; 0 by the template 'total and deterministic' (their statements: YtmmfioeadefceaaDoorTotals.lean).
  GIVEN WITH THE SEED: the statements are not yours to turn. If you find one false, say at which input.
  Laid BY PROGRAM, IN A SANDBOX (cutbox-rows.mjs): the forced cells as the released guide's own fill.sh prints them over the translation c23f40568eb9700a… (all of the seat's roots in one cut). By AI agents, Wed Nov 11 2026. No macro, syntax, notation, axiom, sorry.
-/
import Derived.Test.YtmmfioeadefceaaDoorChecked
import GoSem.Claim
import GoSem.ClaimJoined
import GoSem.ClaimMapViews
import Derived.JoinedTies
import Derived.KernelRfl
namespace Go.Proofs.YtmmfioeadefceaaDoor
/- THE CELL 'sum', in the pinned program and in every row, IS THE sha256 OF THE DUMP (.gsa) THAT YtmmfioeadefceaaDoorProg.lean LOADS. Nothing in Lean hashes anything: it is a label: what it is worth is what the hold of that sum in a sandbox is worth. -/
noncomputable def Tryd.pinned : Pinned := { name := "ytmmfioeadefceaadoor", sum := "c23f40568eb9700a5372273c7ddc167ff37b9198570c96c29a4a435d949cc578", checked := Tryd.checked }
namespace Rows
def none {H : Type} : Left H := { results := [], args := [] }

/- WHAT THE LISTED PACKAGE-LEVEL VARIABLES READ AS WHEN THE CALL BEGINS. Each datum BY PROGRAM (the guide's laid-datum.mjs) off the statement by which the dump's own 'gosem.cut.vars' lays the variable. In a bare row this is a premise. The card (YtmmfioeadefceaaDoorCards.lean) ties it to the program's text. -/
def laid_lodger_claim_steps {H : Type} : DataW H := .iface "func table" (.map [(.int .i64 2, .iface "func" (.lit (.string [108, 111, 100, 103, 101, 114, 47, 99, 108, 97, 105, 109, 46, 108, 111, 111, 107]))), (.int .i64 3, .iface "func" (.lit (.string [108, 111, 100, 103, 101, 114, 47, 99, 108, 97, 105, 109, 46, 99, 108, 97, 105, 109])))])

/-- 'lodgerlaw13.ClaimOne': WHATEVER THE INPUT: true; the input reads as it did. -/
def claimOneSpec : ChangeSpec := { name := "claimOne", fn := fun _ => fun
  | [d1, d2, d3] => { results := [.lit (.bool true)], args := [d1, d2, d3] }
  | _ => none }
def claimOneRow : OpenClaim := { program := "ytmmfioeadefceaadoor", sum := "c23f40568eb9700a5372273c7ddc167ff37b9198570c96c29a4a435d949cc578", func := "lodger/lodgerlaw13.ClaimOne", spec := "claimOne", unfollowed := true, recurses := true, named := ["lodger/claim.steps"], apart := false, laid := [("lodger/claim.steps", laid_lodger_claim_steps)] }
def ClaimOneSaid : Prop := claimOneRow.holds Tryd.pinned (OpenSpec.ofChange claimOneSpec)

/-- ITS FALSE NEIGHBOUR: 'it returns false'. Refute it at one input. -/
def claimOneWrong : ChangeSpec := { name := "claimOne", fn := fun _ => fun
  | [d1, d2, d3] => { results := [.lit (.bool false)], args := [d1, d2, d3] }
  | _ => none }
def ClaimOneWrongFalsely : Prop := claimOneRow.holds Tryd.pinned (OpenSpec.ofChange claimOneWrong)

/-- 'lodgerlaw13.ClaimKeeps': WHATEVER THE INPUT: true; the input reads as it did. -/
def claimKeepsSpec : ChangeSpec := { name := "claimKeeps", fn := fun _ => fun
  | [d1, d2, d3] => { results := [.lit (.bool true)], args := [d1, d2, d3] }
  | _ => none }
def claimKeepsRow : OpenClaim := { program := "ytmmfioeadefceaadoor", sum := "c23f40568eb9700a5372273c7ddc167ff37b9198570c96c29a4a435d949cc578", func := "lodger/lodgerlaw13.ClaimKeeps", spec := "claimKeeps", unfollowed := true, recurses := true, named := ["lodger/claim.steps"], apart := false, laid := [("lodger/claim.steps", laid_lodger_claim_steps)] }
def ClaimKeepsSaid : Prop := claimKeepsRow.holds Tryd.pinned (OpenSpec.ofChange claimKeepsSpec)

/-- ITS FALSE NEIGHBOUR: 'it returns false'. Refute it at one input. -/
def claimKeepsWrong : ChangeSpec := { name := "claimKeeps", fn := fun _ => fun
  | [d1, d2, d3] => { results := [.lit (.bool false)], args := [d1, d2, d3] }
  | _ => none }
def ClaimKeepsWrongFalsely : Prop := claimKeepsRow.holds Tryd.pinned (OpenSpec.ofChange claimKeepsWrong)

/-- 'lodgerlaw13.ClaimLook': WHATEVER THE INPUT: true; the input reads as it did. -/
def claimLookSpec : ChangeSpec := { name := "claimLook", fn := fun _ => fun
  | [d1, d2, d3] => { results := [.lit (.bool true)], args := [d1, d2, d3] }
  | _ => none }
def claimLookRow : OpenClaim := { program := "ytmmfioeadefceaadoor", sum := "c23f40568eb9700a5372273c7ddc167ff37b9198570c96c29a4a435d949cc578", func := "lodger/lodgerlaw13.ClaimLook", spec := "claimLook", unfollowed := true, recurses := true, named := ["lodger/claim.steps"], apart := false, laid := [("lodger/claim.steps", laid_lodger_claim_steps)] }
def ClaimLookSaid : Prop := claimLookRow.holds Tryd.pinned (OpenSpec.ofChange claimLookSpec)

/-- ITS FALSE NEIGHBOUR: 'it returns false'. Refute it at one input. -/
def claimLookWrong : ChangeSpec := { name := "claimLook", fn := fun _ => fun
  | [d1, d2, d3] => { results := [.lit (.bool false)], args := [d1, d2, d3] }
  | _ => none }
def ClaimLookWrongFalsely : Prop := claimLookRow.holds Tryd.pinned (OpenSpec.ofChange claimLookWrong)

/-- 'lodgerlaw18.ExactSteps': WHATEVER THE INPUT: true; the input reads as it did. -/
def exactStepsSpec : ChangeSpec := { name := "exactSteps", fn := fun _ => fun
  | [d1, d2, d3] => { results := [.lit (.bool true)], args := [d1, d2, d3] }
  | _ => none }
def exactStepsRow : OpenClaim := { program := "ytmmfioeadefceaadoor", sum := "c23f40568eb9700a5372273c7ddc167ff37b9198570c96c29a4a435d949cc578", func := "lodger/lodgerlaw18.ExactSteps", spec := "exactSteps", unfollowed := true, recurses := true, named := ["lodger/claim.steps"], apart := false, laid := [("lodger/claim.steps", laid_lodger_claim_steps)] }
def ExactStepsSaid : Prop := exactStepsRow.holds Tryd.pinned (OpenSpec.ofChange exactStepsSpec)

/-- ITS FALSE NEIGHBOUR: 'it returns false'. Refute it at one input. -/
def exactStepsWrong : ChangeSpec := { name := "exactSteps", fn := fun _ => fun
  | [d1, d2, d3] => { results := [.lit (.bool false)], args := [d1, d2, d3] }
  | _ => none }
def ExactStepsWrongFalsely : Prop := exactStepsRow.holds Tryd.pinned (OpenSpec.ofChange exactStepsWrong)

/-- 'lodgerlaw18.ExactOnce': WHATEVER THE INPUT: true; the input reads as it did. -/
def exactOnceSpec : ChangeSpec := { name := "exactOnce", fn := fun _ => fun
  | [d1, d2, d3, d4] => { results := [.lit (.bool true)], args := [d1, d2, d3, d4] }
  | _ => none }
def exactOnceRow : OpenClaim := { program := "ytmmfioeadefceaadoor", sum := "c23f40568eb9700a5372273c7ddc167ff37b9198570c96c29a4a435d949cc578", func := "lodger/lodgerlaw18.ExactOnce", spec := "exactOnce", unfollowed := true, recurses := true, named := ["lodger/claim.steps"], apart := false, laid := [("lodger/claim.steps", laid_lodger_claim_steps)] }
def ExactOnceSaid : Prop := exactOnceRow.holds Tryd.pinned (OpenSpec.ofChange exactOnceSpec)

/-- ITS FALSE NEIGHBOUR: 'it returns false'. Refute it at one input. -/
def exactOnceWrong : ChangeSpec := { name := "exactOnce", fn := fun _ => fun
  | [d1, d2, d3, d4] => { results := [.lit (.bool false)], args := [d1, d2, d3, d4] }
  | _ => none }
def ExactOnceWrongFalsely : Prop := exactOnceRow.holds Tryd.pinned (OpenSpec.ofChange exactOnceWrong)

/-- 'lodgerlaw18.ExactAlone': WHATEVER THE INPUT: true; the input reads as it did. -/
def exactAloneSpec : ChangeSpec := { name := "exactAlone", fn := fun _ => fun
  | [d1, d2, d3] => { results := [.lit (.bool true)], args := [d1, d2, d3] }
  | _ => none }
def exactAloneRow : OpenClaim := { program := "ytmmfioeadefceaadoor", sum := "c23f40568eb9700a5372273c7ddc167ff37b9198570c96c29a4a435d949cc578", func := "lodger/lodgerlaw18.ExactAlone", spec := "exactAlone", unfollowed := true, recurses := true, named := ["lodger/claim.steps"], apart := false, laid := [("lodger/claim.steps", laid_lodger_claim_steps)] }
def ExactAloneSaid : Prop := exactAloneRow.holds Tryd.pinned (OpenSpec.ofChange exactAloneSpec)

/-- ITS FALSE NEIGHBOUR: 'it returns false'. Refute it at one input. -/
def exactAloneWrong : ChangeSpec := { name := "exactAlone", fn := fun _ => fun
  | [d1, d2, d3] => { results := [.lit (.bool false)], args := [d1, d2, d3] }
  | _ => none }
def ExactAloneWrongFalsely : Prop := exactAloneRow.holds Tryd.pinned (OpenSpec.ofChange exactAloneWrong)

/-- 'lodgerlaw18.ExactTwo': WHATEVER THE INPUT: true; the input reads as it did. -/
def exactTwoSpec : ChangeSpec := { name := "exactTwo", fn := fun _ => fun
  | [d1, d2, d3] => { results := [.lit (.bool true)], args := [d1, d2, d3] }
  | _ => none }
def exactTwoRow : OpenClaim := { program := "ytmmfioeadefceaadoor", sum := "c23f40568eb9700a5372273c7ddc167ff37b9198570c96c29a4a435d949cc578", func := "lodger/lodgerlaw18.ExactTwo", spec := "exactTwo", unfollowed := true, recurses := true, named := ["lodger/claim.steps"], apart := false, laid := [("lodger/claim.steps", laid_lodger_claim_steps)] }
def ExactTwoSaid : Prop := exactTwoRow.holds Tryd.pinned (OpenSpec.ofChange exactTwoSpec)

/-- ITS FALSE NEIGHBOUR: 'it returns false'. Refute it at one input. -/
def exactTwoWrong : ChangeSpec := { name := "exactTwo", fn := fun _ => fun
  | [d1, d2, d3] => { results := [.lit (.bool false)], args := [d1, d2, d3] }
  | _ => none }
def ExactTwoWrongFalsely : Prop := exactTwoRow.holds Tryd.pinned (OpenSpec.ofChange exactTwoWrong)

/- THE SECOND FORM. 'bulk': how many values and letters a reading holds, each counted each time it is reached (what is shared counts as often as it is met; a slice's spare places count too). A statement '..UptoSaid' is the law's where the arguments, and the package variables that the reading takes, are together of bulk at most 1048576: NARROWER than '..Said'. Prove '..Said' where nothing that the law and all that it calls make is longer than what came in: it says more and counts as full. Else prove '..UptoSaid'. A law counts once. -/
mutual
def uptoBulk {H : Type} : DataW H → Nat
  | .lit (.string bytes) => bytes.length + 1
  | .lit _ => 1
  | .nil => 1
  | .ptr d => uptoBulk d + 1
  | .slice elems spare => uptoBulkAll elems + uptoBulkAll spare + 1
  | .agg parts => uptoBulkAll parts + 1
  | .iface _ d => uptoBulk d + 1
  | .map entries => uptoBulkEntries entries + 1
  | .held _ => 1
def uptoBulkAll {H : Type} : List (DataW H) → Nat
  | [] => 0
  | d :: r => uptoBulk d + uptoBulkAll r
def uptoBulkEntries {H : Type} : List (Lit × DataW H) → Nat
  | [] => 0
  | x :: r => uptoBulkEntry x + uptoBulkEntries r
def uptoBulkEntry {H : Type} : Lit × DataW H → Nat
  | (.string bytes, d) => bytes.length + uptoBulk d + 1
  | (_, d) => uptoBulk d + 1
 end
def uptoSmall : (H : Type) → List (DataW H) → Bool := fun _ ds => decide (uptoBulkAll ds ≤ 1048576)
def OpenSpec.upto (s : _root_.Go.ChangeSpec) : _root_.Go.OpenSpec := { _root_.Go.OpenSpec.ofChange s with cond := some uptoSmall }

/-- 'lodgerlaw13.ClaimOne', WHERE WHAT IT READS IS OF BULK AT MOST 1048576: true; the input reads as it did. -/
def claimOneUptoRow : OpenClaim := { program := "ytmmfioeadefceaadoor", sum := "c23f40568eb9700a5372273c7ddc167ff37b9198570c96c29a4a435d949cc578", func := "lodger/lodgerlaw13.ClaimOne", spec := "claimOne", unfollowed := true, recurses := true, named := ["lodger/claim.steps"], apart := false, laid := [("lodger/claim.steps", laid_lodger_claim_steps)], narrowed := true }
def ClaimOneUptoSaid : Prop := claimOneUptoRow.holds Tryd.pinned (OpenSpec.upto claimOneSpec)

/-- 'lodgerlaw13.ClaimKeeps', WHERE WHAT IT READS IS OF BULK AT MOST 1048576: true; the input reads as it did. -/
def claimKeepsUptoRow : OpenClaim := { program := "ytmmfioeadefceaadoor", sum := "c23f40568eb9700a5372273c7ddc167ff37b9198570c96c29a4a435d949cc578", func := "lodger/lodgerlaw13.ClaimKeeps", spec := "claimKeeps", unfollowed := true, recurses := true, named := ["lodger/claim.steps"], apart := false, laid := [("lodger/claim.steps", laid_lodger_claim_steps)], narrowed := true }
def ClaimKeepsUptoSaid : Prop := claimKeepsUptoRow.holds Tryd.pinned (OpenSpec.upto claimKeepsSpec)

/-- 'lodgerlaw13.ClaimLook', WHERE WHAT IT READS IS OF BULK AT MOST 1048576: true; the input reads as it did. -/
def claimLookUptoRow : OpenClaim := { program := "ytmmfioeadefceaadoor", sum := "c23f40568eb9700a5372273c7ddc167ff37b9198570c96c29a4a435d949cc578", func := "lodger/lodgerlaw13.ClaimLook", spec := "claimLook", unfollowed := true, recurses := true, named := ["lodger/claim.steps"], apart := false, laid := [("lodger/claim.steps", laid_lodger_claim_steps)], narrowed := true }
def ClaimLookUptoSaid : Prop := claimLookUptoRow.holds Tryd.pinned (OpenSpec.upto claimLookSpec)

/-- 'lodgerlaw18.ExactSteps', WHERE WHAT IT READS IS OF BULK AT MOST 1048576: true; the input reads as it did. -/
def exactStepsUptoRow : OpenClaim := { program := "ytmmfioeadefceaadoor", sum := "c23f40568eb9700a5372273c7ddc167ff37b9198570c96c29a4a435d949cc578", func := "lodger/lodgerlaw18.ExactSteps", spec := "exactSteps", unfollowed := true, recurses := true, named := ["lodger/claim.steps"], apart := false, laid := [("lodger/claim.steps", laid_lodger_claim_steps)], narrowed := true }
def ExactStepsUptoSaid : Prop := exactStepsUptoRow.holds Tryd.pinned (OpenSpec.upto exactStepsSpec)

/-- 'lodgerlaw18.ExactOnce', WHERE WHAT IT READS IS OF BULK AT MOST 1048576: true; the input reads as it did. -/
def exactOnceUptoRow : OpenClaim := { program := "ytmmfioeadefceaadoor", sum := "c23f40568eb9700a5372273c7ddc167ff37b9198570c96c29a4a435d949cc578", func := "lodger/lodgerlaw18.ExactOnce", spec := "exactOnce", unfollowed := true, recurses := true, named := ["lodger/claim.steps"], apart := false, laid := [("lodger/claim.steps", laid_lodger_claim_steps)], narrowed := true }
def ExactOnceUptoSaid : Prop := exactOnceUptoRow.holds Tryd.pinned (OpenSpec.upto exactOnceSpec)

/-- 'lodgerlaw18.ExactAlone', WHERE WHAT IT READS IS OF BULK AT MOST 1048576: true; the input reads as it did. -/
def exactAloneUptoRow : OpenClaim := { program := "ytmmfioeadefceaadoor", sum := "c23f40568eb9700a5372273c7ddc167ff37b9198570c96c29a4a435d949cc578", func := "lodger/lodgerlaw18.ExactAlone", spec := "exactAlone", unfollowed := true, recurses := true, named := ["lodger/claim.steps"], apart := false, laid := [("lodger/claim.steps", laid_lodger_claim_steps)], narrowed := true }
def ExactAloneUptoSaid : Prop := exactAloneUptoRow.holds Tryd.pinned (OpenSpec.upto exactAloneSpec)

/-- 'lodgerlaw18.ExactTwo', WHERE WHAT IT READS IS OF BULK AT MOST 1048576: true; the input reads as it did. -/
def exactTwoUptoRow : OpenClaim := { program := "ytmmfioeadefceaadoor", sum := "c23f40568eb9700a5372273c7ddc167ff37b9198570c96c29a4a435d949cc578", func := "lodger/lodgerlaw18.ExactTwo", spec := "exactTwo", unfollowed := true, recurses := true, named := ["lodger/claim.steps"], apart := false, laid := [("lodger/claim.steps", laid_lodger_claim_steps)], narrowed := true }
def ExactTwoUptoSaid : Prop := exactTwoUptoRow.holds Tryd.pinned (OpenSpec.upto exactTwoSpec)

end Rows
end Go.Proofs.YtmmfioeadefceaaDoor
