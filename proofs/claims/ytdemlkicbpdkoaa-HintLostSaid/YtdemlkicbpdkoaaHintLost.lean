/- HintLost of lodger's layer: for every input the law returns true, and each argument reads afterwards as it read before. No condition. -/
import Derived.Test.YtdemlkicbpdkoaaLvO1HintLost
import Derived.Test.YtdemlkicbpdkoaaLvP7
import Derived.Test.YtdemlkicbpdkoaaRows
import Derived.WalkKit
import Derived.ProofKit
namespace Go.Proofs.Ytdemlkicbpdkoaa
set_option linter.all false
open Go Go.Lv Go.Lv.Ld Go.Proofs
set_option maxRecDepth 100000
attribute [local irreducible] lodgerlaw08_HintLost
theorem HintLost_pure : ∀ cs, ArgsOK E sp_lodgerlaw08_HintLost.args cs → ∃ r, sp_lodgerlaw08_HintLost.run cs = some r ∧ sp_lodgerlaw08_HintLost.enc r = [⟨.bool, true⟩] := fun cs h => by
  obtain ⟨x0, x1, x2, x3, x4, rfl, h0, h1, h2, h3, h4⟩ := args5 h
  have e := run5_eq (R := Bool) (a := .st 1) (b := .slice u64) (c := .int .u16) (d := .bool) (e := u64) lodgerlaw08_HintLost x0 x1 x2 x3 x4
  exact ⟨true, e.trans (pure_HintLost x0 x1 x2 x3 x4 h0 h1 h2 h3 h4), rfl⟩
theorem HintLost_lifted (os : Os) (started : os.Started) (H : Type) (enc : TypeId × Value → H) :
    ReturnsInHanded {} Try.checked os 8 .any (Rows.hintLostSpec.pre6 enc Try.prog Try.f8 Rows.hintLostRow.domain false) (Rows.hintLostSpec.post enc Try.prog Try.f8 false true false false) :=
  law_row (Kd := Try.checked) (C := C_lodgerlaw08_HintLost) rfl (f := 8) (fn := Try.f8) Try.func8 (by kernel_rfl) (by kernel_rfl) (s := Rows.hintLostSpec) rfl (ps := [27, 28, 50, 4, 36]) rfl
    (fun H ds h => by match ds, h with | [d0, d1, d2, d3, d4], _ => rfl) (rt := 4) rfl (by kernel_rfl) (by kernel_rfl) (by kernel_rfl) ok_lodgerlaw08_HintLost rfl (tabOK_of (l := tab) rfl tabF) envFill envOK (fun _ => rfl) HintLost_pure os started H enc
    (ChangeSpec.witness6 (enc := enc) (C := Try.checked) false ⟨#[], #[.agg #[.int .u32 0, .int .i64 0, .slice none 0 0, .int .i64 0, .int .i64 0, .int .i64 0, .int .i64 0], .slice none 0 0, .int .u16 0, .bool false, .int .u64 0], []⟩ 8 (by kernel_rfl) (by kernel_rfl) (by kernel_rfl) (by kernel_rfl))
theorem HintLost_holds : Rows.HintLostSaid :=
  OpenClaim.holds_of_wide 8 Try.f8 rfl rfl rfl rfl rfl rfl rfl ⟨rfl, rfl, rfl, rfl, rfl⟩ rfl rfl rfl rfl rfl (by kernel_rfl) Try.func8 (by kernel_rfl)
    (of_decide_eq_true (by kernel_rfl)) (by unfold Func.isWrapper; first | (rw [if_pos (by decide +kernel)]; kernel_rfl) | (rw [if_neg (by decide +kernel)]; exact ⟨rfl, rfl⟩))
    (fun os started H enc _ => HintLost_lifted os started H enc)
end Go.Proofs.Ytdemlkicbpdkoaa
