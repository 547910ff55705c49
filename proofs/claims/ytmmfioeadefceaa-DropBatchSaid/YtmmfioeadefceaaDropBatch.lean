/- DropBatch of lodger's layer: for every input the law returns true, and each argument reads afterwards as it read before. No condition. -/
import Derived.Test.YtmmfioeadefceaaLvO3DropBatch
import Derived.Test.YtmmfioeadefceaaLvE6
import Derived.Test.YtmmfioeadefceaaRows
import Derived.WalkKit
import Derived.ProofKit
namespace Go.Proofs.Ytmmfioeadefceaa
set_option linter.all false
open Go Go.Lv Go.Lv.Ld Go.Proofs
set_option maxRecDepth 100000
attribute [local irreducible] lodgerlaw14_DropBatch
theorem DropBatch_pure : ∀ cs, ArgsOK E sp_lodgerlaw14_DropBatch.args cs → ∃ r, sp_lodgerlaw14_DropBatch.run cs = some r ∧ sp_lodgerlaw14_DropBatch.enc r = [⟨.bool, true⟩] := fun cs h => by
  obtain ⟨x0, x1, x2, rfl, h0, h1, h2⟩ := args3 h
  have e := run3_eq (R := Bool) (a := .st 1) (b := .slice u64) (c := .slice (.int .u16)) lodgerlaw14_DropBatch x0 x1 x2
  exact ⟨true, e.trans (pure_DropBatch x0 x1 x2 h0 h1 h2), rfl⟩
theorem DropBatch_lifted (os : Os) (started : os.Started) (H : Type) (enc : TypeId × Value → H) :
    ReturnsInHanded {} Try.checked os 3 .any (Rows.dropBatchSpec.pre6 enc Try.prog Try.f3 Rows.dropBatchRow.domain false) (Rows.dropBatchSpec.post enc Try.prog Try.f3 false true false false) :=
  law_row (Kd := Try.checked) (C := C_lodgerlaw14_DropBatch) rfl (f := 3) (fn := Try.f3) Try.func3 (by kernel_rfl) (by kernel_rfl) (s := Rows.dropBatchSpec) rfl (ps := [27, 28, 29]) rfl
    (fun H ds h => by match ds, h with | [d0, d1, d2], _ => rfl) (rt := 4) rfl (by kernel_rfl) (by kernel_rfl) (by kernel_rfl) ok_lodgerlaw14_DropBatch rfl (tabOK_of (l := tab) rfl tabF) envFill envOK (fun _ => rfl) DropBatch_pure os started H enc
    (ChangeSpec.witness6 (enc := enc) (C := Try.checked) false ⟨#[], #[.agg #[.int .u32 0, .int .i64 0, .slice none 0 0, .int .i64 0, .int .i64 0, .int .i64 0, .int .i64 0], .slice none 0 0, .slice none 0 0], []⟩ 8 (by kernel_rfl) (by kernel_rfl) (by kernel_rfl) (by kernel_rfl))
theorem DropBatch_holds : Rows.DropBatchSaid :=
  OpenClaim.holds_of_wide 3 Try.f3 rfl rfl rfl rfl rfl rfl rfl ⟨rfl, rfl, rfl, rfl, rfl⟩ rfl rfl rfl rfl rfl (by kernel_rfl) Try.func3 (by kernel_rfl)
    (of_decide_eq_true (by kernel_rfl)) (by unfold Func.isWrapper; first | (rw [if_pos (by decide +kernel)]; kernel_rfl) | (rw [if_neg (by decide +kernel)]; exact ⟨rfl, rfl⟩))
    (fun os started H enc _ => DropBatch_lifted os started H enc)
end Go.Proofs.Ytmmfioeadefceaa
