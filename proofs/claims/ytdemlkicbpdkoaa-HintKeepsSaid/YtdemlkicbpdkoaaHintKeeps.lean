/- HintKeeps of lodger's layer: for every input the law returns true, and each argument reads afterwards as it read before. No condition. -/
import Derived.Test.YtdemlkicbpdkoaaLvO1HintKeeps
import Derived.Test.YtdemlkicbpdkoaaLvP6
import Derived.Test.YtdemlkicbpdkoaaRows
import Derived.WalkKit
import Derived.ProofKit
namespace Go.Proofs.Ytdemlkicbpdkoaa
set_option linter.all false
open Go Go.Lv Go.Lv.Ld Go.Proofs
set_option maxRecDepth 100000
attribute [local irreducible] lodgerlaw08_HintKeeps
theorem HintKeeps_pure : ∀ cs, ArgsOK E sp_lodgerlaw08_HintKeeps.args cs → ∃ r, sp_lodgerlaw08_HintKeeps.run cs = some r ∧ sp_lodgerlaw08_HintKeeps.enc r = [⟨.bool, true⟩] := fun cs h => by
  obtain ⟨x0, x1, x2, rfl, h0, h1, h2⟩ := args3 h
  have e := run3_eq (R := Bool) (a := .st 1) (b := .slice u64) (c := .st 4) lodgerlaw08_HintKeeps x0 x1 x2
  exact ⟨true, e.trans (pure_HintKeeps x0 x1 x2 h0 h1 h2), rfl⟩
theorem HintKeeps_lifted (os : Os) (started : os.Started) (H : Type) (enc : TypeId × Value → H) :
    ReturnsInHanded {} Try.checked os 6 .any (Rows.hintKeepsSpec.pre6 enc Try.prog Try.f6 Rows.hintKeepsRow.domain false) (Rows.hintKeepsSpec.post enc Try.prog Try.f6 false true false false) :=
  law_row (Kd := Try.checked) (C := C_lodgerlaw08_HintKeeps) rfl (f := 6) (fn := Try.f6) Try.func6 (by kernel_rfl) (by kernel_rfl) (s := Rows.hintKeepsSpec) rfl (ps := [27, 28, 38]) rfl
    (fun H ds h => by match ds, h with | [d0, d1, d2], _ => rfl) (rt := 4) rfl (by kernel_rfl) (by kernel_rfl) (by kernel_rfl) ok_lodgerlaw08_HintKeeps rfl (tabOK_of (l := tab) rfl tabF) envFill envOK (fun _ => rfl) HintKeeps_pure os started H enc
    (ChangeSpec.witness6 (enc := enc) (C := Try.checked) false ⟨#[], #[.agg #[.int .u32 0, .int .i64 0, .slice none 0 0, .int .i64 0, .int .i64 0, .int .i64 0, .int .i64 0], .slice none 0 0, .agg #[.int .i64 0, .int .u32 0, .slice none 0 0, .int .i64 0, .int .u32 0, .bool false, .slice none 0 0, .slice none 0 0, .int .i64 0, .int .i64 0, .int .i64 0, .int .i64 0, .int .i64 0, .int .u64 0, .bool false, .slice none 0 0, .int .i64 0, .int .i64 0, .int .i64 0, .int .i64 0]], []⟩ 8 (by kernel_rfl) (by kernel_rfl) (by kernel_rfl) (by kernel_rfl))
theorem HintKeeps_holds : Rows.HintKeepsSaid :=
  OpenClaim.holds_of_wide 6 Try.f6 rfl rfl rfl rfl rfl rfl rfl ⟨rfl, rfl, rfl, rfl, rfl⟩ rfl rfl rfl rfl rfl (by kernel_rfl) Try.func6 (by kernel_rfl)
    (of_decide_eq_true (by kernel_rfl)) (by unfold Func.isWrapper; first | (rw [if_pos (by decide +kernel)]; kernel_rfl) | (rw [if_neg (by decide +kernel)]; exact ⟨rfl, rfl⟩))
    (fun os started H enc _ => HintKeeps_lifted os started H enc)
end Go.Proofs.Ytdemlkicbpdkoaa
