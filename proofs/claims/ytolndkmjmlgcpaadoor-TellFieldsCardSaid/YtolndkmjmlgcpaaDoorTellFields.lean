/- TellFields of lodger's layer: for every input the law returns true, and each argument reads afterwards as it read before; the listed variable holds what the program's text lays. -/
import Derived.Test.YtolndkmjmlgcpaaDoorOF
import Derived.Test.YtolndkmjmlgcpaaDoorZ
import Derived.Test.YtolndkmjmlgcpaaDoorRows
import Derived.Test.YtolndkmjmlgcpaaDoorTie
import Derived.Test.YtolndkmjmlgcpaaDoorCards
import Derived.Lay
import Derived.MakeChecks
import Derived.Test.YtolndkmjmlgcpaaDoorE
import Derived.WalkKit
import Derived.ProofKit
import Derived.Stop.Joined
import Derived.SevenTiedAt
namespace Go.Proofs.YtolndkmjmlgcpaaDoor
set_option linter.all false
open Go Go.Lv Go.Lv.Ld Go.Proofs Go.RowKit Go.ChangeShapes Go.WideShapes Go.ChangeAt
set_option maxRecDepth 100000
theorem TellFields_mem3 : ("strconv.ErrSyntax", (Rows.laid_strconv_ErrSyntax : DataW Unit)) ∈ Rows.tellFieldsRow.laid := by
  simp only [Rows.tellFieldsRow, List.mem_cons, true_or, or_true]
theorem TellFields_mem4 : ("strconv.ErrRange", (Rows.laid_strconv_ErrRange : DataW Unit)) ∈ Rows.tellFieldsRow.laid := by
  simp only [Rows.tellFieldsRow, List.mem_cons, true_or, or_true]
theorem TellFields_mem5 : ("internal/strconv.uint64pow10", (Lib.tabData .u64 Lib.pow10Tab : DataW Unit)) ∈ Rows.tellFieldsRow.laid := by
  have e : (Lib.tabData .u64 Lib.pow10Tab : DataW Unit) = Rows.laid_internal_strconv_uint64pow10 := by kernel_rfl
  rw [e]
  simp only [Rows.tellFieldsRow, List.mem_cons, true_or, or_true]
attribute [local irreducible] lodgerlaw28_TellFields
theorem TellFields_pure : ∀ cs, ArgsOK E sp_lodgerlaw28_TellFields.args cs → ∃ r, sp_lodgerlaw28_TellFields.run cs = some r ∧ sp_lodgerlaw28_TellFields.enc r = [⟨.bool, true⟩] := fun cs h => by
  obtain ⟨x0, x1, rfl, h0, h1⟩ := args2 h
  have e := run2_eq (R := Bool) (a := .st 6) (b := .int .u8) lodgerlaw28_TellFields x0 x1
  exact ⟨true, e.trans (pure_TellFields x0 x1 h0 h1), rfl⟩
theorem TellFields_glob (W : World) (h : laidMetH Tryd.prog Rows.tellFieldsRow.laid W) : GlobOK C_lodgerlaw28_TellFields (sig W) W := globOK_of (l := gtab) rfl fun p hp => by
  rw [MakeChecks.laidMetH_plain _ _ _ (by kernel_rfl)] at h
  simp only [gtab, List.mem_cons, List.not_mem_nil, or_false] at hp
  rcases hp with rfl | rfl | rfl
  · exact globAt_err (l := Rows.tellFieldsRow.laid) (n := "strconv.ErrSyntax") h (TellFields_mem3) (by kernel_rfl) (t := 53) (by kernel_rfl) (by kernel_rfl)
  · exact globAt_err (l := Rows.tellFieldsRow.laid) (n := "strconv.ErrRange") h (TellFields_mem4) (by kernel_rfl) (t := 53) (by kernel_rfl) (by kernel_rfl)
  · exact globAt_ints (l := Rows.tellFieldsRow.laid) (n := "internal/strconv.uint64pow10") (k := .u64) (zs := Lib.pow10Tab) h (TellFields_mem5) (by kernel_rfl) (t := 130) (by kernel_rfl) (e := 110) (m := 20) (by kernel_rfl) (by kernel_rfl) (by kernel_rfl) (by kernel_rfl) (by decide)
theorem TellFields_lifted (os : Os) (started : os.Started) (H : Type) (enc : TypeId × Value → H) :
    ReturnsInHanded {} Tryd.checked os 6 .any (fun w args => (Rows.tellFieldsSpec.pre enc Tryd.prog Tryd.f6 [] false w args ∧ laidMetH Tryd.prog Rows.tellFieldsRow.laid w) ∧ sizedMet enc Tryd.prog Tryd.f6 (OpenSpec.ofChange Rows.tellFieldsSpec) false w args)
      (Rows.tellFieldsSpec.post enc Tryd.prog Tryd.f6 false true false false) :=
  law_row_laid (Kd := Tryd.checked) (C := C_lodgerlaw28_TellFields) rfl (f := 6) (fn := Tryd.f6) Tryd.func6 (by kernel_rfl) (by kernel_rfl) (s := Rows.tellFieldsSpec) rfl (ps := [43, 5]) rfl
    (fun H ds h => by match ds, h with | [d0, d1], _ => rfl) (rt := 4) rfl (by kernel_rfl) (by kernel_rfl) (by kernel_rfl) ok_lodgerlaw28_TellFields rfl (tabOK_of (l := tab) rfl tabF) envFill envOK
    (X := fun w => laidMetH Tryd.prog Rows.tellFieldsRow.laid w) (fun _ _ hh h => h.of_heap hh) TellFields_glob TellFields_pure os started
    (ChangeSpec.witness_shaped (enc := enc) (C := Tryd.checked) (os := os) (X := fun w _ => laidMetH Tryd.prog Rows.tellFieldsRow.laid w) false (World.laidAll Tryd.prog os Rows.tellFieldsRow.laid) #[.agg #[.int .i64 0, .int .i64 0, .int .i64 0, .int .i64 0, .int .i64 0, .int .i64 0, .int .u32 0, .bool false, .slice none 0 0, .slice none 0 0], .int .u8 0] 8 (World.laidAll_os _ _ _) (World.shaped_of_ZipB (by kernel_rfl) (by kernel_rfl)) (by kernel_rfl) (by kernel_rfl) (by kernel_rfl)
      (by rw [MakeChecks.laidMetH_plain _ _ _ (by kernel_rfl)]; exact laidMet_laidAll _ (by kernel_rfl) (by kernel_rfl)))
theorem TellFields_row : Rows.TellFieldsSaid :=
  OpenClaim.holds_of_wide 6 Tryd.f6 rfl rfl rfl rfl rfl rfl rfl ⟨rfl, rfl, rfl, rfl, rfl⟩ rfl rfl rfl rfl rfl (by kernel_rfl) Tryd.func6 (by kernel_rfl)
    (of_decide_eq_true (by kernel_rfl)) (by unfold Func.isWrapper; first | (rw [if_pos (by decide +kernel)]; kernel_rfl) | (rw [if_neg (by decide +kernel)]; exact ⟨rfl, rfl⟩))
    (fun os started H enc _ => TellFields_lifted os started H enc)
theorem TellFields_holds : Rows.TellFieldsCardSaid :=
  Claim7.holds_tied_plain_at .later [] [.data, .data, .data, .data, .sentinel, .sentinel, .pinned] true (true, "c1b47fc38a116e83360cfb16a616ff063b5271189e5f16727b5bdd1d888a053e") true
    TellFields_row (fun _ h => by cases h) (by kernel_rfl) (fun _ h => by cases h) tellFields_row_tie rfl ⟨rfl, rfl⟩ (by kernel_rfl) rfl
    (fun f fn hf hfn => by
      obtain rfl : f = 6 := Option.some.inj ((show Tryd.prog.funcNamed "lodger/lodgerlaw28.TellFields" = some 6 by kernel_rfl).symm.trans hf) |>.symm
      obtain rfl : fn = Tryd.f6 := (Option.some.inj (Tryd.func6.symm.trans hfn)).symm
      exact ⟨by kernel_rfl, fun j t ht => by
        rw [show Tryd.f6.params = #[43, 5] from rfl] at ht
        have hm : t ∈ [43, 5] := by simpa using Array.mem_of_getElem? ht
        have hall : ([43, 5].all fun u => !Tryd.prog.wantsStandIn u) = true := by kernel_rfl
        exact (show Tryd.prog.wantsStandIn t = false by simpa using List.all_eq_true.1 hall t hm)⟩)
    (by kernel_rfl)
end Go.Proofs.YtolndkmjmlgcpaaDoor
