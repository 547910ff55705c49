/- DropKeeps of lodger's layer: for every input the law returns true, and each argument reads afterwards as it read before. No condition. -/
import Derived.Test.YtmmfioeadefceaaLvO3DropKeeps
import Derived.Test.YtmmfioeadefceaaLvE2
import Derived.Test.YtmmfioeadefceaaRows
import Derived.WalkKit
import Derived.ProofKit
namespace Go.Proofs.Ytmmfioeadefceaa
set_option linter.all false
open Go Go.Lv Go.Lv.Ld Go.Proofs
set_option maxRecDepth 100000
attribute [local irreducible] lodgerlaw14_DropKeeps
theorem DropKeeps_pure : ∀ cs, ArgsOK E sp_lodgerlaw14_DropKeeps.args cs → ∃ r, sp_lodgerlaw14_DropKeeps.run cs = some r ∧ sp_lodgerlaw14_DropKeeps.enc r = [⟨.bool, true⟩] := fun cs h => by
  obtain ⟨x0, x1, x2, rfl, h0, h1, h2⟩ := args3 h
  have e := run3_eq (R := Bool) (a := .st 1) (b := .slice u64) (c := .st 4) lodgerlaw14_DropKeeps x0 x1 x2
  exact ⟨true, e.trans (pure_DropKeeps x0 x1 x2 h0 h1 h2), rfl⟩
theorem DropKeeps_lifted (os : Os) (started : os.Started) (H : Type) (enc : TypeId × Value → H) :
    ReturnsInHanded {} Try.checked os 4 .any (Rows.dropKeepsSpec.pre6 enc Try.prog Try.f4 Rows.dropKeepsRow.domain false) (Rows.dropKeepsSpec.post enc Try.prog Try.f4 false true false false) :=
  law_row (Kd := Try.checked) (C := C_lodgerlaw14_DropKeeps) rfl (f := 4) (fn := Try.f4) Try.func4 (by kernel_rfl) (by kernel_rfl) (s := Rows.dropKeepsSpec) rfl (ps := [27, 28, 43]) rfl
    (fun H ds h => by match ds, h with | [d0, d1, d2], _ => rfl) (rt := 4) rfl (by kernel_rfl) (by kernel_rfl) (by kernel_rfl) ok_lodgerlaw14_DropKeeps rfl (tabOK_of (l := tab) rfl tabF) envFill envOK (fun _ => rfl) DropKeeps_pure os started H enc
    (ChangeSpec.witness6 (enc := enc) (C := Try.checked) false ⟨#[], #[.agg #[.int .u32 0, .int .i64 0, .slice none 0 0, .int .i64 0, .int .i64 0, .int .i64 0, .int .i64 0], .slice none 0 0, .agg #[.int .i64 0, .int .u32 0, .slice none 0 0, .int .i64 0, .int .u32 0, .bool false, .slice none 0 0, .slice none 0 0, .int .i64 0, .int .i64 0, .int .i64 0, .int .i64 0, .int .i64 0, .int .u64 0, .bool false, .slice none 0 0, .int .i64 0, .int .i64 0, .int .i64 0, .int .i64 0]], []⟩ 8 (by kernel_rfl) (by kernel_rfl) (by kernel_rfl) (by kernel_rfl))
theorem DropKeeps_holds : Rows.DropKeepsSaid :=
  OpenClaim.holds_of_wide 4 Try.f4 rfl rfl rfl rfl rfl rfl rfl ⟨rfl, rfl, rfl, rfl, rfl⟩ rfl rfl rfl rfl rfl (by kernel_rfl) Try.func4 (by kernel_rfl)
    (of_decide_eq_true (by kernel_rfl)) (by unfold Func.isWrapper; first | (rw [if_pos (by decide +kernel)]; kernel_rfl) | (rw [if_neg (by decide +kernel)]; exact ⟨rfl, rfl⟩))
    (fun os started H enc _ => DropKeeps_lifted os started H enc)
end Go.Proofs.Ytmmfioeadefceaa
