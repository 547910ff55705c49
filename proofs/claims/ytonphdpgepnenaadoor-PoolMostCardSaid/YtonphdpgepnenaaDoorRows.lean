/-
  NARROWER THAN 'FOR EVERY INPUT', by the rows' own cells (each row's printed sentence says how): PoolOne: laid · PoolAlone: laid · PoolMost: laid · PoolTold: laid.
  DERIVED. THE GIVEN ROWS OF THIS SEAT. 4 by the template 'for every input the law returns true; each argument reads behind the call as it read before'; 0 by the template 'total and deterministic' (their statements: YtonphdpgepnenaaDoorTotals.lean).
  GIVEN WITH THE SEED: the statements are not yours to turn. If you find one false, say at which input.
  Laid BY PROGRAM, IN A SANDBOX (cutbox-rows.mjs): the forced cells as the released guide's own fill.sh prints them over the translation 638b33b882970336… (all of the seat's roots in one cut). By AI agents, Wed Nov 11 2026. No macro, syntax, notation, axiom, sorry.
-/
import Derived.Test.YtonphdpgepnenaaDoorChecked
import GoSem.Claim
import GoSem.ClaimJoined
import GoSem.ClaimMapViews
import Derived.JoinedTies
import Derived.KernelRfl
namespace Go.Proofs.YtonphdpgepnenaaDoor
/- THE CELL 'sum', in the pinned program and in every row, IS THE sha256 OF THE DUMP (.gsa) THAT YtonphdpgepnenaaDoorProg.lean LOADS. Nothing in Lean hashes anything: it is a label: what it is worth is what the hold of that sum in a sandbox is worth. -/
noncomputable def Tryd.pinned : Pinned := { name := "ytonphdpgepnenaadoor", sum := "638b33b882970336609367e028c4c121ba81503d7e42fadc7f15d0c0e230a8a5", checked := Tryd.checked }
namespace Rows
def none {H : Type} : Left H := { results := [], args := [] }

/- WHAT THE LISTED PACKAGE-LEVEL VARIABLES READ AS WHEN THE CALL BEGINS. Each datum BY PROGRAM (the guide's laid-datum.mjs) off the statement by which the dump's own 'gosem.cut.vars' lays the variable. In a bare row this is a premise. The card (YtonphdpgepnenaaDoorCards.lean) ties it to the program's text. -/
def laid_lodger_ask_single {H : Type} : DataW H := .agg [.lit (.bool false), .lit (.bool false), .lit (.bool true), .lit (.bool true), .lit (.bool false), .lit (.bool true)]
def laid_lodger_pool_kinds {H : Type} : DataW H := .map [(.int .i64 1, .iface "lodger/pool.grants" (.agg [])), (.int .i64 2, .iface "lodger/pool.exacts" (.agg [])), (.int .i64 3, .iface "lodger/pool.releases" (.agg [])), (.int .i64 4, .iface "lodger/pool.releases" (.agg [])), (.int .i64 5, .iface "lodger/pool.exacts" (.agg [])), (.int .i64 6, .iface "lodger/pool.snaps" (.agg []))]

/-- 'lodgerlaw21.PoolOne': WHATEVER THE INPUT: true; the input reads as it did. -/
def poolOneSpec : ChangeSpec := { name := "poolOne", fn := fun _ => fun
  | [d1, d2, d3, d4, d5] => { results := [.lit (.bool true)], args := [d1, d2, d3, d4, d5] }
  | _ => none }
def poolOneRow : OpenClaim := { program := "ytonphdpgepnenaadoor", sum := "638b33b882970336609367e028c4c121ba81503d7e42fadc7f15d0c0e230a8a5", func := "lodger/lodgerlaw21.PoolOne", spec := "poolOne", unfollowed := true, recurses := true, named := ["lodger/pool.kinds", "lodger/ask.single"], apart := false, laid := [("lodger/ask.single", laid_lodger_ask_single), ("lodger/pool.kinds", laid_lodger_pool_kinds)] }
def PoolOneSaid : Prop := poolOneRow.holds Tryd.pinned (OpenSpec.ofChange poolOneSpec)

/-- ITS FALSE NEIGHBOUR: 'it returns false'. Refute it at one input. -/
def poolOneWrong : ChangeSpec := { name := "poolOne", fn := fun _ => fun
  | [d1, d2, d3, d4, d5] => { results := [.lit (.bool false)], args := [d1, d2, d3, d4, d5] }
  | _ => none }
def PoolOneWrongFalsely : Prop := poolOneRow.holds Tryd.pinned (OpenSpec.ofChange poolOneWrong)

/-- 'lodgerlaw21.PoolAlone': WHATEVER THE INPUT: true; the input reads as it did. -/
def poolAloneSpec : ChangeSpec := { name := "poolAlone", fn := fun _ => fun
  | [d1, d2, d3, d4] => { results := [.lit (.bool true)], args := [d1, d2, d3, d4] }
  | _ => none }
def poolAloneRow : OpenClaim := { program := "ytonphdpgepnenaadoor", sum := "638b33b882970336609367e028c4c121ba81503d7e42fadc7f15d0c0e230a8a5", func := "lodger/lodgerlaw21.PoolAlone", spec := "poolAlone", unfollowed := true, recurses := true, named := ["lodger/pool.kinds", "lodger/ask.single"], apart := false, laid := [("lodger/ask.single", laid_lodger_ask_single), ("lodger/pool.kinds", laid_lodger_pool_kinds)] }
def PoolAloneSaid : Prop := poolAloneRow.holds Tryd.pinned (OpenSpec.ofChange poolAloneSpec)

/-- ITS FALSE NEIGHBOUR: 'it returns false'. Refute it at one input. -/
def poolAloneWrong : ChangeSpec := { name := "poolAlone", fn := fun _ => fun
  | [d1, d2, d3, d4] => { results := [.lit (.bool false)], args := [d1, d2, d3, d4] }
  | _ => none }
def PoolAloneWrongFalsely : Prop := poolAloneRow.holds Tryd.pinned (OpenSpec.ofChange poolAloneWrong)

/-- 'lodgerlaw21.PoolMost': WHATEVER THE INPUT: true; the input reads as it did. -/
def poolMostSpec : ChangeSpec := { name := "poolMost", fn := fun _ => fun
  | [d1, d2] => { results := [.lit (.bool true)], args := [d1, d2] }
  | _ => none }
def poolMostRow : OpenClaim := { program := "ytonphdpgepnenaadoor", sum := "638b33b882970336609367e028c4c121ba81503d7e42fadc7f15d0c0e230a8a5", func := "lodger/lodgerlaw21.PoolMost", spec := "poolMost", unfollowed := true, recurses := true, named := ["lodger/pool.kinds", "lodger/ask.single"], apart := false, laid := [("lodger/ask.single", laid_lodger_ask_single), ("lodger/pool.kinds", laid_lodger_pool_kinds)] }
def PoolMostSaid : Prop := poolMostRow.holds Tryd.pinned (OpenSpec.ofChange poolMostSpec)

/-- ITS FALSE NEIGHBOUR: 'it returns false'. Refute it at one input. -/
def poolMostWrong : ChangeSpec := { name := "poolMost", fn := fun _ => fun
  | [d1, d2] => { results := [.lit (.bool false)], args := [d1, d2] }
  | _ => none }
def PoolMostWrongFalsely : Prop := poolMostRow.holds Tryd.pinned (OpenSpec.ofChange poolMostWrong)

/-- 'lodgerlaw21.PoolTold': WHATEVER THE INPUT: true; the input reads as it did. -/
def poolToldSpec : ChangeSpec := { name := "poolTold", fn := fun _ => fun
  | [d1, d2] => { results := [.lit (.bool true)], args := [d1, d2] }
  | _ => none }
def poolToldRow : OpenClaim := { program := "ytonphdpgepnenaadoor", sum := "638b33b882970336609367e028c4c121ba81503d7e42fadc7f15d0c0e230a8a5", func := "lodger/lodgerlaw21.PoolTold", spec := "poolTold", unfollowed := true, recurses := true, named := ["lodger/pool.kinds", "lodger/ask.single"], apart := false, laid := [("lodger/ask.single", laid_lodger_ask_single), ("lodger/pool.kinds", laid_lodger_pool_kinds)] }
def PoolToldSaid : Prop := poolToldRow.holds Tryd.pinned (OpenSpec.ofChange poolToldSpec)

/-- ITS FALSE NEIGHBOUR: 'it returns false'. Refute it at one input. -/
def poolToldWrong : ChangeSpec := { name := "poolTold", fn := fun _ => fun
  | [d1, d2] => { results := [.lit (.bool false)], args := [d1, d2] }
  | _ => none }
def PoolToldWrongFalsely : Prop := poolToldRow.holds Tryd.pinned (OpenSpec.ofChange poolToldWrong)

/- THE SECOND FORM. 'bulk': how many values and letters a reading holds, each counted each time it is reached (what is shared counts as often as it is met; a slice's spare places count too). A statement '..UptoSaid' is the law's where the arguments, and the package variables that the reading takes, are together of bulk at most 1048576: NARROWER than '..Said'. Prove '..Said' where nothing that the law and all that it calls make is longer than what came in: it says more and counts as full. Else prove '..UptoSaid'. A law counts once. -/
mutual
def uptoBulk {H : Type} : DataW H → Nat
  | .lit (.string bytes) => bytes.length + 1
  | .lit _ => 1
  | .nil => 1
  | .ptr d => uptoBulk d + 1
  | .slice elems spare => uptoBulkAll elems + uptoBulkAll spare + 1
  | .agg parts => uptoBulkAll parts + 1
  | .iface _ d => uptoBulk d + 1
  | .map entries => uptoBulkEntries entries + 1
  | .held _ => 1
def uptoBulkAll {H : Type} : List (DataW H) → Nat
  | [] => 0
  | d :: r => uptoBulk d + uptoBulkAll r
def uptoBulkEntries {H : Type} : List (Lit × DataW H) → Nat
  | [] => 0
  | x :: r => uptoBulkEntry x + uptoBulkEntries r
def uptoBulkEntry {H : Type} : Lit × DataW H → Nat
  | (.string bytes, d) => bytes.length + uptoBulk d + 1
  | (_, d) => uptoBulk d + 1
 end
def uptoSmall : (H : Type) → List (DataW H) → Bool := fun _ ds => decide (uptoBulkAll ds ≤ 1048576)
def OpenSpec.upto (s : _root_.Go.ChangeSpec) : _root_.Go.OpenSpec := { _root_.Go.OpenSpec.ofChange s with cond := some uptoSmall }

/-- 'lodgerlaw21.PoolOne', WHERE WHAT IT READS IS OF BULK AT MOST 1048576: true; the input reads as it did. -/
def poolOneUptoRow : OpenClaim := { program := "ytonphdpgepnenaadoor", sum := "638b33b882970336609367e028c4c121ba81503d7e42fadc7f15d0c0e230a8a5", func := "lodger/lodgerlaw21.PoolOne", spec := "poolOne", unfollowed := true, recurses := true, named := ["lodger/pool.kinds", "lodger/ask.single"], apart := false, laid := [("lodger/ask.single", laid_lodger_ask_single), ("lodger/pool.kinds", laid_lodger_pool_kinds)], narrowed := true }
def PoolOneUptoSaid : Prop := poolOneUptoRow.holds Tryd.pinned (OpenSpec.upto poolOneSpec)

/-- 'lodgerlaw21.PoolAlone', WHERE WHAT IT READS IS OF BULK AT MOST 1048576: true; the input reads as it did. -/
def poolAloneUptoRow : OpenClaim := { program := "ytonphdpgepnenaadoor", sum := "638b33b882970336609367e028c4c121ba81503d7e42fadc7f15d0c0e230a8a5", func := "lodger/lodgerlaw21.PoolAlone", spec := "poolAlone", unfollowed := true, recurses := true, named := ["lodger/pool.kinds", "lodger/ask.single"], apart := false, laid := [("lodger/ask.single", laid_lodger_ask_single), ("lodger/pool.kinds", laid_lodger_pool_kinds)], narrowed := true }
def PoolAloneUptoSaid : Prop := poolAloneUptoRow.holds Tryd.pinned (OpenSpec.upto poolAloneSpec)

/-- 'lodgerlaw21.PoolMost', WHERE WHAT IT READS IS OF BULK AT MOST 1048576: true; the input reads as it did. -/
def poolMostUptoRow : OpenClaim := { program := "ytonphdpgepnenaadoor", sum := "638b33b882970336609367e028c4c121ba81503d7e42fadc7f15d0c0e230a8a5", func := "lodger/lodgerlaw21.PoolMost", spec := "poolMost", unfollowed := true, recurses := true, named := ["lodger/pool.kinds", "lodger/ask.single"], apart := false, laid := [("lodger/ask.single", laid_lodger_ask_single), ("lodger/pool.kinds", laid_lodger_pool_kinds)], narrowed := true }
def PoolMostUptoSaid : Prop := poolMostUptoRow.holds Tryd.pinned (OpenSpec.upto poolMostSpec)

/-- 'lodgerlaw21.PoolTold', WHERE WHAT IT READS IS OF BULK AT MOST 1048576: true; the input reads as it did. -/
def poolToldUptoRow : OpenClaim := { program := "ytonphdpgepnenaadoor", sum := "638b33b882970336609367e028c4c121ba81503d7e42fadc7f15d0c0e230a8a5", func := "lodger/lodgerlaw21.PoolTold", spec := "poolTold", unfollowed := true, recurses := true, named := ["lodger/pool.kinds", "lodger/ask.single"], apart := false, laid := [("lodger/ask.single", laid_lodger_ask_single), ("lodger/pool.kinds", laid_lodger_pool_kinds)], narrowed := true }
def PoolToldUptoSaid : Prop := poolToldUptoRow.holds Tryd.pinned (OpenSpec.upto poolToldSpec)

end Rows
end Go.Proofs.YtonphdpgepnenaaDoor
