/- HintOnly of lodger's layer: for every input the law returns true, and each argument reads afterwards as it read before. No condition. -/
import Derived.Test.YtdemlkicbpdkoaaLvO1HintOnly
import Derived.Test.YtdemlkicbpdkoaaLvP8
import Derived.Test.YtdemlkicbpdkoaaRows
import Derived.WalkKit
import Derived.ProofKit
namespace Go.Proofs.Ytdemlkicbpdkoaa
set_option linter.all false
open Go Go.Lv Go.Lv.Ld Go.Proofs
set_option maxRecDepth 100000
attribute [local irreducible] lodgerlaw08_HintOnly
theorem HintOnly_pure : ∀ cs, ArgsOK E sp_lodgerlaw08_HintOnly.args cs → ∃ r, sp_lodgerlaw08_HintOnly.run cs = some r ∧ sp_lodgerlaw08_HintOnly.enc r = [⟨.bool, true⟩] := fun cs h => by
  obtain ⟨x0, x1, x2, x3, rfl, h0, h1, h2, h3⟩ := args4 h
  have e := run4_eq (R := Bool) (a := .st 1) (b := .slice u64) (c := .int .u16) (d := .bool) lodgerlaw08_HintOnly x0 x1 x2 x3
  exact ⟨true, e.trans (pure_HintOnly x0 x1 x2 x3 h0 h1 h2 h3), rfl⟩
theorem HintOnly_lifted (os : Os) (started : os.Started) (H : Type) (enc : TypeId × Value → H) :
    ReturnsInHanded {} Try.checked os 4 .any (Rows.hintOnlySpec.pre6 enc Try.prog Try.f4 Rows.hintOnlyRow.domain false) (Rows.hintOnlySpec.post enc Try.prog Try.f4 false true false false) :=
  law_row (Kd := Try.checked) (C := C_lodgerlaw08_HintOnly) rfl (f := 4) (fn := Try.f4) Try.func4 (by kernel_rfl) (by kernel_rfl) (s := Rows.hintOnlySpec) rfl (ps := [27, 28, 50, 4]) rfl
    (fun H ds h => by match ds, h with | [d0, d1, d2, d3], _ => rfl) (rt := 4) rfl (by kernel_rfl) (by kernel_rfl) (by kernel_rfl) ok_lodgerlaw08_HintOnly rfl (tabOK_of (l := tab) rfl tabF) envFill envOK (fun _ => rfl) HintOnly_pure os started H enc
    (ChangeSpec.witness6 (enc := enc) (C := Try.checked) false ⟨#[], #[.agg #[.int .u32 0, .int .i64 0, .slice none 0 0, .int .i64 0, .int .i64 0, .int .i64 0, .int .i64 0], .slice none 0 0, .int .u16 0, .bool false], []⟩ 8 (by kernel_rfl) (by kernel_rfl) (by kernel_rfl) (by kernel_rfl))
theorem HintOnly_holds : Rows.HintOnlySaid :=
  OpenClaim.holds_of_wide 4 Try.f4 rfl rfl rfl rfl rfl rfl rfl ⟨rfl, rfl, rfl, rfl, rfl⟩ rfl rfl rfl rfl rfl (by kernel_rfl) Try.func4 (by kernel_rfl)
    (of_decide_eq_true (by kernel_rfl)) (by unfold Func.isWrapper; first | (rw [if_pos (by decide +kernel)]; kernel_rfl) | (rw [if_neg (by decide +kernel)]; exact ⟨rfl, rfl⟩))
    (fun os started H enc _ => HintOnly_lifted os started H enc)
end Go.Proofs.Ytdemlkicbpdkoaa
