/- HintSteps of lodger's layer: for every input the law returns true, and each argument reads afterwards as it read before. No condition. -/
import Derived.Test.YtdemlkicbpdkoaaLvO1HintSteps
import Derived.Test.YtdemlkicbpdkoaaLvP6
import Derived.Test.YtdemlkicbpdkoaaRows
import Derived.WalkKit
import Derived.ProofKit
namespace Go.Proofs.Ytdemlkicbpdkoaa
set_option linter.all false
open Go Go.Lv Go.Lv.Ld Go.Proofs
set_option maxRecDepth 100000
attribute [local irreducible] lodgerlaw08_HintSteps
theorem HintSteps_pure : ∀ cs, ArgsOK E sp_lodgerlaw08_HintSteps.args cs → ∃ r, sp_lodgerlaw08_HintSteps.run cs = some r ∧ sp_lodgerlaw08_HintSteps.enc r = [⟨.bool, true⟩] := fun cs h => by
  obtain ⟨x0, x1, x2, x3, x4, rfl, h0, h1, h2, h3, h4⟩ := args5 h
  have e := run5_eq (R := Bool) (a := .st 1) (b := .slice u64) (c := .st 4) (d := .int .u8) (e := .int .u8) lodgerlaw08_HintSteps x0 x1 x2 x3 x4
  exact ⟨true, e.trans (pure_HintSteps x0 x1 x2 x3 x4 h0 h1 h2 h3 h4), rfl⟩
theorem HintSteps_lifted (os : Os) (started : os.Started) (H : Type) (enc : TypeId × Value → H) :
    ReturnsInHanded {} Try.checked os 3 .any (Rows.hintStepsSpec.pre6 enc Try.prog Try.f3 Rows.hintStepsRow.domain false) (Rows.hintStepsSpec.post enc Try.prog Try.f3 false true false false) :=
  law_row (Kd := Try.checked) (C := C_lodgerlaw08_HintSteps) rfl (f := 3) (fn := Try.f3) Try.func3 (by kernel_rfl) (by kernel_rfl) (s := Rows.hintStepsSpec) rfl (ps := [27, 28, 38, 5, 5]) rfl
    (fun H ds h => by match ds, h with | [d0, d1, d2, d3, d4], _ => rfl) (rt := 4) rfl (by kernel_rfl) (by kernel_rfl) (by kernel_rfl) ok_lodgerlaw08_HintSteps rfl (tabOK_of (l := tab) rfl tabF) envFill envOK (fun _ => rfl) HintSteps_pure os started H enc
    (ChangeSpec.witness6 (enc := enc) (C := Try.checked) false ⟨#[], #[.agg #[.int .u32 0, .int .i64 0, .slice none 0 0, .int .i64 0, .int .i64 0, .int .i64 0, .int .i64 0], .slice none 0 0, .agg #[.int .i64 0, .int .u32 0, .slice none 0 0, .int .i64 0, .int .u32 0, .bool false, .slice none 0 0, .slice none 0 0, .int .i64 0, .int .i64 0, .int .i64 0, .int .i64 0, .int .i64 0, .int .u64 0, .bool false, .slice none 0 0, .int .i64 0, .int .i64 0, .int .i64 0, .int .i64 0], .int .u8 0, .int .u8 0], []⟩ 8 (by kernel_rfl) (by kernel_rfl) (by kernel_rfl) (by kernel_rfl))
theorem HintSteps_holds : Rows.HintStepsSaid :=
  OpenClaim.holds_of_wide 3 Try.f3 rfl rfl rfl rfl rfl rfl rfl ⟨rfl, rfl, rfl, rfl, rfl⟩ rfl rfl rfl rfl rfl (by kernel_rfl) Try.func3 (by kernel_rfl)
    (of_decide_eq_true (by kernel_rfl)) (by unfold Func.isWrapper; first | (rw [if_pos (by decide +kernel)]; kernel_rfl) | (rw [if_neg (by decide +kernel)]; exact ⟨rfl, rfl⟩))
    (fun os started H enc _ => HintSteps_lifted os started H enc)
end Go.Proofs.Ytdemlkicbpdkoaa
