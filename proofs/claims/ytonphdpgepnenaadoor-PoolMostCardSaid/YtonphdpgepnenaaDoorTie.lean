/-
  DERIVED. GIVEN WITH THE SEED: THE PROGRAM's TIES (one call each: nine closed facts by the kernel) AND EACH ROW's TIE, after the 31st guide's Derived/Test/Toyas{Tie, Card}.lean. No idea stands in it: it is a product of the set-up. Laid BY PROGRAM, IN A SANDBOX (cutbox-door.mjs). By AI agents, Wed Nov 11 2026. No macro, syntax, notation, axiom, sorry.
-/
import Derived.Test.YtonphdpgepnenaaDoorRows
import Derived.LaidByTextLater
import Derived.SevenTiedAt
import Derived.LaidSub
import Derived.LaidOnce
namespace Go.Proofs.YtonphdpgepnenaaDoor
open Go
set_option maxRecDepth 100000
theorem seatTie1 : Tryd.prog.laidByTextLater [("lodger/ask.single", Rows.laid_lodger_ask_single), ("lodger/pool.kinds", Rows.laid_lodger_pool_kinds)] [.data, .mapped] true :=
  Program.laidByTextLater_by_one 141 8 7 (by kernel_rfl) (by kernel_rfl) (by kernel_rfl) (by kernel_rfl) (by kernel_rfl) (by kernel_rfl) (fun _ _ => by kernel_rfl)
theorem noOwnUnsafe : Tryd.pinned.checked.prog.headLifts.contains "ownunsafe" = false := by kernel_rfl
theorem tie : Tryd.prog.laidByTextLater [("lodger/ask.single", Rows.laid_lodger_ask_single), ("lodger/pool.kinds", Rows.laid_lodger_pool_kinds)] [.data, .mapped] true :=
  Program.laidByTextLater.sub seatTie1 ["lodger/ask.single", "lodger/pool.kinds"] (by kernel_rfl) (by kernel_rfl)
theorem poolOne_row_tie : Rows.poolOneRow.laidByTextAt .later Tryd.pinned [.data, .mapped] true :=
  OpenClaim.laidByTextAt_later rfl rfl tie noOwnUnsafe
theorem poolAlone_row_tie : Rows.poolAloneRow.laidByTextAt .later Tryd.pinned [.data, .mapped] true :=
  OpenClaim.laidByTextAt_later rfl rfl tie noOwnUnsafe
theorem poolMost_row_tie : Rows.poolMostRow.laidByTextAt .later Tryd.pinned [.data, .mapped] true :=
  OpenClaim.laidByTextAt_later rfl rfl tie noOwnUnsafe
theorem poolTold_row_tie : Rows.poolToldRow.laidByTextAt .later Tryd.pinned [.data, .mapped] true :=
  OpenClaim.laidByTextAt_later rfl rfl tie noOwnUnsafe
theorem poolOneUpto_row_tie : Rows.poolOneUptoRow.laidByTextAt .later Tryd.pinned [.data, .mapped] true :=
  OpenClaim.laidByTextAt_later rfl rfl tie noOwnUnsafe
theorem poolAloneUpto_row_tie : Rows.poolAloneUptoRow.laidByTextAt .later Tryd.pinned [.data, .mapped] true :=
  OpenClaim.laidByTextAt_later rfl rfl tie noOwnUnsafe
theorem poolMostUpto_row_tie : Rows.poolMostUptoRow.laidByTextAt .later Tryd.pinned [.data, .mapped] true :=
  OpenClaim.laidByTextAt_later rfl rfl tie noOwnUnsafe
theorem poolToldUpto_row_tie : Rows.poolToldUptoRow.laidByTextAt .later Tryd.pinned [.data, .mapped] true :=
  OpenClaim.laidByTextAt_later rfl rfl tie noOwnUnsafe
end Go.Proofs.YtonphdpgepnenaaDoor
