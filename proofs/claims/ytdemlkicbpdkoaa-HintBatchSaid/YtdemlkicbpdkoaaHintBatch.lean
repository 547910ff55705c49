/- HintBatch of lodger's layer: for every input the law returns true, and each argument reads afterwards as it read before. No condition. -/
import Derived.Test.YtdemlkicbpdkoaaLvO1HintBatch
import Derived.Test.YtdemlkicbpdkoaaLvP8
import Derived.Test.YtdemlkicbpdkoaaRows
import Derived.WalkKit
import Derived.ProofKit
namespace Go.Proofs.Ytdemlkicbpdkoaa
set_option linter.all false
open Go Go.Lv Go.Lv.Ld Go.Proofs
set_option maxRecDepth 100000
attribute [local irreducible] lodgerlaw08_HintBatch
theorem HintBatch_pure : ∀ cs, ArgsOK E sp_lodgerlaw08_HintBatch.args cs → ∃ r, sp_lodgerlaw08_HintBatch.run cs = some r ∧ sp_lodgerlaw08_HintBatch.enc r = [⟨.bool, true⟩] := fun cs h => by
  obtain ⟨x0, x1, rfl, h0, h1⟩ := args2 h
  have e := run2_eq (R := Bool) (a := .st 1) (b := .st 4) lodgerlaw08_HintBatch x0 x1
  exact ⟨true, e.trans (pure_HintBatch x0 x1 h0 h1), rfl⟩
theorem HintBatch_lifted (os : Os) (started : os.Started) (H : Type) (enc : TypeId × Value → H) :
    ReturnsInHanded {} Try.checked os 5 .any (Rows.hintBatchSpec.pre6 enc Try.prog Try.f5 Rows.hintBatchRow.domain false) (Rows.hintBatchSpec.post enc Try.prog Try.f5 false true false false) :=
  law_row (Kd := Try.checked) (C := C_lodgerlaw08_HintBatch) rfl (f := 5) (fn := Try.f5) Try.func5 (by kernel_rfl) (by kernel_rfl) (s := Rows.hintBatchSpec) rfl (ps := [27, 38]) rfl
    (fun H ds h => by match ds, h with | [d0, d1], _ => rfl) (rt := 4) rfl (by kernel_rfl) (by kernel_rfl) (by kernel_rfl) ok_lodgerlaw08_HintBatch rfl (tabOK_of (l := tab) rfl tabF) envFill envOK (fun _ => rfl) HintBatch_pure os started H enc
    (ChangeSpec.witness6 (enc := enc) (C := Try.checked) false ⟨#[], #[.agg #[.int .u32 0, .int .i64 0, .slice none 0 0, .int .i64 0, .int .i64 0, .int .i64 0, .int .i64 0], .agg #[.int .i64 0, .int .u32 0, .slice none 0 0, .int .i64 0, .int .u32 0, .bool false, .slice none 0 0, .slice none 0 0, .int .i64 0, .int .i64 0, .int .i64 0, .int .i64 0, .int .i64 0, .int .u64 0, .bool false, .slice none 0 0, .int .i64 0, .int .i64 0, .int .i64 0, .int .i64 0]], []⟩ 8 (by kernel_rfl) (by kernel_rfl) (by kernel_rfl) (by kernel_rfl))
theorem HintBatch_holds : Rows.HintBatchSaid :=
  OpenClaim.holds_of_wide 5 Try.f5 rfl rfl rfl rfl rfl rfl rfl ⟨rfl, rfl, rfl, rfl, rfl⟩ rfl rfl rfl rfl rfl (by kernel_rfl) Try.func5 (by kernel_rfl)
    (of_decide_eq_true (by kernel_rfl)) (by unfold Func.isWrapper; first | (rw [if_pos (by decide +kernel)]; kernel_rfl) | (rw [if_neg (by decide +kernel)]; exact ⟨rfl, rfl⟩))
    (fun os started H enc _ => HintBatch_lifted os started H enc)
end Go.Proofs.Ytdemlkicbpdkoaa
