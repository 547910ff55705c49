/-
  DERIVED. GIVEN WITH THE SEED: THE PROGRAM's TIES (one call each: nine closed facts by the kernel) AND EACH ROW's TIE, after the 31st guide's Derived/Test/Toyas{Tie, Card}.lean. No idea stands in it: it is a product of the set-up. Laid BY PROGRAM, IN A SANDBOX (cutbox-door.mjs). By AI agents, Wed Nov 11 2026. No macro, syntax, notation, axiom, sorry.
-/
import Derived.Test.YtiajkejmabflaaaDoorRows
import Derived.LaidByTextLater
import Derived.SevenTiedAt
import Derived.LaidSub
import Derived.LaidOnce
namespace Go.Proofs.YtiajkejmabflaaaDoor
open Go
set_option maxRecDepth 100000
theorem seatTie1 : Tryd.prog.laidByTextLater [("lodger/ask.single", Rows.laid_lodger_ask_single), ("lodger/spec.deeds", Rows.laid_lodger_spec_deeds)] [.data, .funcs] true :=
  Program.laidByTextLater_by_one 54 8 7 (by kernel_rfl) (by kernel_rfl) (by kernel_rfl) (by kernel_rfl) (by kernel_rfl) (by kernel_rfl) (fun _ _ => by kernel_rfl)
theorem noOwnUnsafe : Tryd.pinned.checked.prog.headLifts.contains "ownunsafe" = false := by kernel_rfl
theorem tie : Tryd.prog.laidByTextLater [("lodger/ask.single", Rows.laid_lodger_ask_single), ("lodger/spec.deeds", Rows.laid_lodger_spec_deeds)] [.data, .funcs] true :=
  Program.laidByTextLater.sub seatTie1 ["lodger/ask.single", "lodger/spec.deeds"] (by kernel_rfl) (by kernel_rfl)
theorem linzGood_row_tie : Rows.linzGoodRow.laidByTextAt .later Tryd.pinned [.data, .funcs] true :=
  OpenClaim.laidByTextAt_later rfl rfl tie noOwnUnsafe
theorem linzTurned_row_tie : Rows.linzTurnedRow.laidByTextAt .later Tryd.pinned [.data, .funcs] true :=
  OpenClaim.laidByTextAt_later rfl rfl tie noOwnUnsafe
theorem linzApart_row_tie : Rows.linzApartRow.laidByTextAt .later Tryd.pinned [.data, .funcs] true :=
  OpenClaim.laidByTextAt_later rfl rfl tie noOwnUnsafe
theorem linzGoodUpto_row_tie : Rows.linzGoodUptoRow.laidByTextAt .later Tryd.pinned [.data, .funcs] true :=
  OpenClaim.laidByTextAt_later rfl rfl tie noOwnUnsafe
theorem linzTurnedUpto_row_tie : Rows.linzTurnedUptoRow.laidByTextAt .later Tryd.pinned [.data, .funcs] true :=
  OpenClaim.laidByTextAt_later rfl rfl tie noOwnUnsafe
theorem linzApartUpto_row_tie : Rows.linzApartUptoRow.laidByTextAt .later Tryd.pinned [.data, .funcs] true :=
  OpenClaim.laidByTextAt_later rfl rfl tie noOwnUnsafe
end Go.Proofs.YtiajkejmabflaaaDoor
