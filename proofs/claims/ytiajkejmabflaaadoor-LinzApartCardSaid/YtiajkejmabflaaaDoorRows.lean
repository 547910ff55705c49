/-
  NARROWER THAN 'FOR EVERY INPUT', by the rows' own cells (each row's printed sentence says how): LinzGood: laid · LinzTurned: laid · LinzApart: laid.
  DERIVED. THE GIVEN ROWS OF THIS SEAT. 3 by the template 'for every input the law returns true; each argument reads behind the call as it read before'; 0 by the template 'total and deterministic' (their statements: YtiajkejmabflaaaDoorTotals.lean).
  GIVEN WITH THE SEED: the statements are not yours to turn. If you find one false, say at which input.
  Laid BY PROGRAM, IN A SANDBOX (cutbox-rows.mjs): the forced cells as the released guide's own fill.sh prints them over the translation fc7d416512e0ca4d… (all of the seat's roots in one cut). By AI agents, Wed Nov 11 2026. No macro, syntax, notation, axiom, sorry.
-/
import Derived.Test.YtiajkejmabflaaaDoorChecked
import GoSem.Claim
import GoSem.ClaimJoined
import GoSem.ClaimMapViews
import Derived.JoinedTies
import Derived.KernelRfl
namespace Go.Proofs.YtiajkejmabflaaaDoor
/- THE CELL 'sum', in the pinned program and in every row, IS THE sha256 OF THE DUMP (.gsa) THAT YtiajkejmabflaaaDoorProg.lean LOADS. Nothing in Lean hashes anything: it is a label: what it is worth is what the hold of that sum in a sandbox is worth. -/
noncomputable def Tryd.pinned : Pinned := { name := "ytiajkejmabflaaadoor", sum := "fc7d416512e0ca4d6865ce1a8498d536375ad9908cc6833b14ea1e706b15497d", checked := Tryd.checked }
namespace Rows
def none {H : Type} : Left H := { results := [], args := [] }

/- WHAT THE LISTED PACKAGE-LEVEL VARIABLES READ AS WHEN THE CALL BEGINS. Each datum BY PROGRAM (the guide's laid-datum.mjs) off the statement by which the dump's own 'gosem.cut.vars' lays the variable. In a bare row this is a premise. The card (YtiajkejmabflaaaDoorCards.lean) ties it to the program's text. -/
def laid_lodger_ask_single {H : Type} : DataW H := .agg [.lit (.bool false), .lit (.bool false), .lit (.bool true), .lit (.bool true), .lit (.bool false), .lit (.bool true)]
def laid_lodger_spec_deeds {H : Type} : DataW H := .iface "func table" (.map [(.int .i64 1, .iface "func" (.lit (.string [108, 111, 100, 103, 101, 114, 47, 115, 112, 101, 99, 46, 108, 101, 97, 115, 116]))), (.int .i64 2, .iface "func" (.lit (.string [108, 111, 100, 103, 101, 114, 47, 115, 112, 101, 99, 46, 101, 120, 97, 99, 116]))), (.int .i64 3, .iface "func" (.lit (.string [108, 111, 100, 103, 101, 114, 47, 115, 112, 101, 99, 46, 114, 101, 108, 101, 97, 115, 101]))), (.int .i64 4, .iface "func" (.lit (.string [108, 111, 100, 103, 101, 114, 47, 115, 112, 101, 99, 46, 98, 97, 116, 99, 104]))), (.int .i64 5, .iface "func" (.lit (.string [108, 111, 100, 103, 101, 114, 47, 115, 112, 101, 99, 46, 113, 117, 101, 114, 121]))), (.int .i64 6, .iface "func" (.lit (.string [108, 111, 100, 103, 101, 114, 47, 115, 112, 101, 99, 46, 115, 110, 97, 112, 115, 104, 111, 116]))), (.int .i64 7, .iface "func" (.lit (.string [108, 111, 100, 103, 101, 114, 47, 115, 112, 101, 99, 46, 99, 108, 111, 115, 105, 110, 103])))])

/-- 'lodgerlaw25.LinzGood': WHATEVER THE INPUT: true; the input reads as it did. -/
def linzGoodSpec : ChangeSpec := { name := "linzGood", fn := fun _ => fun
  | [d1, d2, d3, d4] => { results := [.lit (.bool true)], args := [d1, d2, d3, d4] }
  | _ => none }
def linzGoodRow : OpenClaim := { program := "ytiajkejmabflaaadoor", sum := "fc7d416512e0ca4d6865ce1a8498d536375ad9908cc6833b14ea1e706b15497d", func := "lodger/lodgerlaw25.LinzGood", spec := "linzGood", unfollowed := true, recurses := true, named := ["lodger/spec.deeds", "lodger/ask.single"], apart := false, laid := [("lodger/ask.single", laid_lodger_ask_single), ("lodger/spec.deeds", laid_lodger_spec_deeds)] }
def LinzGoodSaid : Prop := linzGoodRow.holds Tryd.pinned (OpenSpec.ofChange linzGoodSpec)

/-- ITS FALSE NEIGHBOUR: 'it returns false'. Refute it at one input. -/
def linzGoodWrong : ChangeSpec := { name := "linzGood", fn := fun _ => fun
  | [d1, d2, d3, d4] => { results := [.lit (.bool false)], args := [d1, d2, d3, d4] }
  | _ => none }
def LinzGoodWrongFalsely : Prop := linzGoodRow.holds Tryd.pinned (OpenSpec.ofChange linzGoodWrong)

/-- 'lodgerlaw25.LinzTurned': WHATEVER THE INPUT: true; the input reads as it did. -/
def linzTurnedSpec : ChangeSpec := { name := "linzTurned", fn := fun _ => fun
  | [d1, d2, d3, d4] => { results := [.lit (.bool true)], args := [d1, d2, d3, d4] }
  | _ => none }
def linzTurnedRow : OpenClaim := { program := "ytiajkejmabflaaadoor", sum := "fc7d416512e0ca4d6865ce1a8498d536375ad9908cc6833b14ea1e706b15497d", func := "lodger/lodgerlaw25.LinzTurned", spec := "linzTurned", unfollowed := true, recurses := true, named := ["lodger/spec.deeds", "lodger/ask.single"], apart := false, laid := [("lodger/ask.single", laid_lodger_ask_single), ("lodger/spec.deeds", laid_lodger_spec_deeds)] }
def LinzTurnedSaid : Prop := linzTurnedRow.holds Tryd.pinned (OpenSpec.ofChange linzTurnedSpec)

/-- ITS FALSE NEIGHBOUR: 'it returns false'. Refute it at one input. -/
def linzTurnedWrong : ChangeSpec := { name := "linzTurned", fn := fun _ => fun
  | [d1, d2, d3, d4] => { results := [.lit (.bool false)], args := [d1, d2, d3, d4] }
  | _ => none }
def LinzTurnedWrongFalsely : Prop := linzTurnedRow.holds Tryd.pinned (OpenSpec.ofChange linzTurnedWrong)

/-- 'lodgerlaw25.LinzApart': WHATEVER THE INPUT: true; the input reads as it did. -/
def linzApartSpec : ChangeSpec := { name := "linzApart", fn := fun _ => fun
  | [d1, d2, d3, d4] => { results := [.lit (.bool true)], args := [d1, d2, d3, d4] }
  | _ => none }
def linzApartRow : OpenClaim := { program := "ytiajkejmabflaaadoor", sum := "fc7d416512e0ca4d6865ce1a8498d536375ad9908cc6833b14ea1e706b15497d", func := "lodger/lodgerlaw25.LinzApart", spec := "linzApart", unfollowed := true, recurses := true, named := ["lodger/spec.deeds", "lodger/ask.single"], apart := false, laid := [("lodger/ask.single", laid_lodger_ask_single), ("lodger/spec.deeds", laid_lodger_spec_deeds)] }
def LinzApartSaid : Prop := linzApartRow.holds Tryd.pinned (OpenSpec.ofChange linzApartSpec)

/-- ITS FALSE NEIGHBOUR: 'it returns false'. Refute it at one input. -/
def linzApartWrong : ChangeSpec := { name := "linzApart", fn := fun _ => fun
  | [d1, d2, d3, d4] => { results := [.lit (.bool false)], args := [d1, d2, d3, d4] }
  | _ => none }
def LinzApartWrongFalsely : Prop := linzApartRow.holds Tryd.pinned (OpenSpec.ofChange linzApartWrong)

/- THE SECOND FORM. 'bulk': how many values and letters a reading holds, each counted each time it is reached (what is shared counts as often as it is met; a slice's spare places count too). A statement '..UptoSaid' is the law's where the arguments, and the package variables that the reading takes, are together of bulk at most 1048576: NARROWER than '..Said'. Prove '..Said' where nothing that the law and all that it calls make is longer than what came in: it says more and counts as full. Else prove '..UptoSaid'. A law counts once. -/
mutual
def uptoBulk {H : Type} : DataW H → Nat
  | .lit (.string bytes) => bytes.length + 1
  | .lit _ => 1
  | .nil => 1
  | .ptr d => uptoBulk d + 1
  | .slice elems spare => uptoBulkAll elems + uptoBulkAll spare + 1
  | .agg parts => uptoBulkAll parts + 1
  | .iface _ d => uptoBulk d + 1
  | .map entries => uptoBulkEntries entries + 1
  | .held _ => 1
def uptoBulkAll {H : Type} : List (DataW H) → Nat
  | [] => 0
  | d :: r => uptoBulk d + uptoBulkAll r
def uptoBulkEntries {H : Type} : List (Lit × DataW H) → Nat
  | [] => 0
  | x :: r => uptoBulkEntry x + uptoBulkEntries r
def uptoBulkEntry {H : Type} : Lit × DataW H → Nat
  | (.string bytes, d) => bytes.length + uptoBulk d + 1
  | (_, d) => uptoBulk d + 1
 end
def uptoSmall : (H : Type) → List (DataW H) → Bool := fun _ ds => decide (uptoBulkAll ds ≤ 1048576)
def OpenSpec.upto (s : _root_.Go.ChangeSpec) : _root_.Go.OpenSpec := { _root_.Go.OpenSpec.ofChange s with cond := some uptoSmall }

/-- 'lodgerlaw25.LinzGood', WHERE WHAT IT READS IS OF BULK AT MOST 1048576: true; the input reads as it did. -/
def linzGoodUptoRow : OpenClaim := { program := "ytiajkejmabflaaadoor", sum := "fc7d416512e0ca4d6865ce1a8498d536375ad9908cc6833b14ea1e706b15497d", func := "lodger/lodgerlaw25.LinzGood", spec := "linzGood", unfollowed := true, recurses := true, named := ["lodger/spec.deeds", "lodger/ask.single"], apart := false, laid := [("lodger/ask.single", laid_lodger_ask_single), ("lodger/spec.deeds", laid_lodger_spec_deeds)], narrowed := true }
def LinzGoodUptoSaid : Prop := linzGoodUptoRow.holds Tryd.pinned (OpenSpec.upto linzGoodSpec)

/-- 'lodgerlaw25.LinzTurned', WHERE WHAT IT READS IS OF BULK AT MOST 1048576: true; the input reads as it did. -/
def linzTurnedUptoRow : OpenClaim := { program := "ytiajkejmabflaaadoor", sum := "fc7d416512e0ca4d6865ce1a8498d536375ad9908cc6833b14ea1e706b15497d", func := "lodger/lodgerlaw25.LinzTurned", spec := "linzTurned", unfollowed := true, recurses := true, named := ["lodger/spec.deeds", "lodger/ask.single"], apart := false, laid := [("lodger/ask.single", laid_lodger_ask_single), ("lodger/spec.deeds", laid_lodger_spec_deeds)], narrowed := true }
def LinzTurnedUptoSaid : Prop := linzTurnedUptoRow.holds Tryd.pinned (OpenSpec.upto linzTurnedSpec)

/-- 'lodgerlaw25.LinzApart', WHERE WHAT IT READS IS OF BULK AT MOST 1048576: true; the input reads as it did. -/
def linzApartUptoRow : OpenClaim := { program := "ytiajkejmabflaaadoor", sum := "fc7d416512e0ca4d6865ce1a8498d536375ad9908cc6833b14ea1e706b15497d", func := "lodger/lodgerlaw25.LinzApart", spec := "linzApart", unfollowed := true, recurses := true, named := ["lodger/spec.deeds", "lodger/ask.single"], apart := false, laid := [("lodger/ask.single", laid_lodger_ask_single), ("lodger/spec.deeds", laid_lodger_spec_deeds)], narrowed := true }
def LinzApartUptoSaid : Prop := linzApartUptoRow.holds Tryd.pinned (OpenSpec.upto linzApartSpec)

end Rows
end Go.Proofs.YtiajkejmabflaaaDoor
