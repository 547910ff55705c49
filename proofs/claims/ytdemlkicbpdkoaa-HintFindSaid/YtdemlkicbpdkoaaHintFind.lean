/- HintFind of lodger's layer: for every input the law returns true, and each argument reads afterwards as it read before. No condition. -/
import Derived.Test.YtdemlkicbpdkoaaLvO1HintFind
import Derived.Test.YtdemlkicbpdkoaaLvHFind
import Derived.Test.YtdemlkicbpdkoaaRows
import Derived.WalkKit
import Derived.ProofKit
namespace Go.Proofs.Ytdemlkicbpdkoaa
set_option linter.all false
open Go Go.Lv Go.Lv.Ld Go.Proofs
set_option maxRecDepth 100000
attribute [local irreducible] lodgerlaw08_HintFind
theorem HintFind_pure : ∀ cs, ArgsOK E sp_lodgerlaw08_HintFind.args cs → ∃ r, sp_lodgerlaw08_HintFind.run cs = some r ∧ sp_lodgerlaw08_HintFind.enc r = [⟨.bool, true⟩] := fun cs h => by
  obtain ⟨x0, x1, x2, rfl, h0, h1, h2⟩ := args3 h
  have e := run3_eq (R := Bool) (a := u64) (b := .int .u8) (c := .int .u8) lodgerlaw08_HintFind x0 x1 x2
  exact ⟨true, e.trans (pure_HintFind x0 x1 x2 h0 h1 h2), rfl⟩
theorem HintFind_lifted (os : Os) (started : os.Started) (H : Type) (enc : TypeId × Value → H) :
    ReturnsInHanded {} Try.checked os 7 .any (Rows.hintFindSpec.pre6 enc Try.prog Try.f7 Rows.hintFindRow.domain false) (Rows.hintFindSpec.post enc Try.prog Try.f7 false true false false) :=
  law_row (Kd := Try.checked) (C := C_lodgerlaw08_HintFind) rfl (f := 7) (fn := Try.f7) Try.func7 (by kernel_rfl) (by kernel_rfl) (s := Rows.hintFindSpec) rfl (ps := [36, 5, 5]) rfl
    (fun H ds h => by match ds, h with | [d0, d1, d2], _ => rfl) (rt := 4) rfl (by kernel_rfl) (by kernel_rfl) (by kernel_rfl) ok_lodgerlaw08_HintFind rfl (tabOK_of (l := tab) rfl tabF) envFill envOK (fun _ => rfl) HintFind_pure os started H enc
    (ChangeSpec.witness6 (enc := enc) (C := Try.checked) false ⟨#[], #[.int .u64 0, .int .u8 0, .int .u8 0], []⟩ 8 (by kernel_rfl) (by kernel_rfl) (by kernel_rfl) (by kernel_rfl))
theorem HintFind_holds : Rows.HintFindSaid :=
  OpenClaim.holds_of_wide 7 Try.f7 rfl rfl rfl rfl rfl rfl rfl ⟨rfl, rfl, rfl, rfl, rfl⟩ rfl rfl rfl rfl rfl (by kernel_rfl) Try.func7 (by kernel_rfl)
    (of_decide_eq_true (by kernel_rfl)) (by unfold Func.isWrapper; first | (rw [if_pos (by decide +kernel)]; kernel_rfl) | (rw [if_neg (by decide +kernel)]; exact ⟨rfl, rfl⟩))
    (fun os started H enc _ => HintFind_lifted os started H enc)
end Go.Proofs.Ytdemlkicbpdkoaa
