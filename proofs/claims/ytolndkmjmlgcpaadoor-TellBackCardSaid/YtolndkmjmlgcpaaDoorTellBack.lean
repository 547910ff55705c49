/- TellBack of lodger's layer: for every input the law returns true, and each argument reads afterwards as it read before; the listed variable holds what the program's text lays. -/
import Derived.Test.YtolndkmjmlgcpaaDoorOB
import Derived.Test.YtolndkmjmlgcpaaDoorZ
import Derived.Test.YtolndkmjmlgcpaaDoorRows
import Derived.Test.YtolndkmjmlgcpaaDoorTie
import Derived.Test.YtolndkmjmlgcpaaDoorCards
import Derived.Lay
import Derived.MakeChecks
import Derived.Test.YtolndkmjmlgcpaaDoorE
import Derived.WalkKit
import Derived.ProofKit
import Derived.Stop.Joined
import Derived.SevenTiedAt
namespace Go.Proofs.YtolndkmjmlgcpaaDoor
set_option linter.all false
open Go Go.Lv Go.Lv.Ld Go.Proofs Go.RowKit Go.ChangeShapes Go.WideShapes Go.ChangeAt
set_option maxRecDepth 100000
theorem TellBack_mem3 : ("strconv.ErrSyntax", (Rows.laid_strconv_ErrSyntax : DataW Unit)) ∈ Rows.tellBackRow.laid := by
  simp only [Rows.tellBackRow, List.mem_cons, true_or, or_true]
theorem TellBack_mem4 : ("strconv.ErrRange", (Rows.laid_strconv_ErrRange : DataW Unit)) ∈ Rows.tellBackRow.laid := by
  simp only [Rows.tellBackRow, List.mem_cons, true_or, or_true]
theorem TellBack_mem5 : ("internal/strconv.uint64pow10", (Lib.tabData .u64 Lib.pow10Tab : DataW Unit)) ∈ Rows.tellBackRow.laid := by
  have e : (Lib.tabData .u64 Lib.pow10Tab : DataW Unit) = Rows.laid_internal_strconv_uint64pow10 := by kernel_rfl
  rw [e]
  simp only [Rows.tellBackRow, List.mem_cons, true_or, or_true]
attribute [local irreducible] lodgerlaw28_TellBack
theorem TellBack_pure : ∀ cs, ArgsOK E sp_lodgerlaw28_TellBack.args cs → ∃ r, sp_lodgerlaw28_TellBack.run cs = some r ∧ sp_lodgerlaw28_TellBack.enc r = [⟨.bool, true⟩] := fun cs h => by
  obtain ⟨x0, x1, x2, rfl, h0, h1, h2⟩ := args3 h
  have e := run3_eq (R := Bool) (a := .slice (.st 6)) (b := .slice (.st 6)) (c := .str) lodgerlaw28_TellBack x0 x1 x2
  exact ⟨true, e.trans (pure_TellBack x0 x1 x2 h0 h1 h2), rfl⟩
theorem TellBack_glob (W : World) (h : laidMetH Tryd.prog Rows.tellBackRow.laid W) : GlobOK C_lodgerlaw28_TellBack (sig W) W := globOK_of (l := gtab) rfl fun p hp => by
  rw [MakeChecks.laidMetH_plain _ _ _ (by kernel_rfl)] at h
  simp only [gtab, List.mem_cons, List.not_mem_nil, or_false] at hp
  rcases hp with rfl | rfl | rfl
  · exact globAt_err (l := Rows.tellBackRow.laid) (n := "strconv.ErrSyntax") h (TellBack_mem3) (by kernel_rfl) (t := 53) (by kernel_rfl) (by kernel_rfl)
  · exact globAt_err (l := Rows.tellBackRow.laid) (n := "strconv.ErrRange") h (TellBack_mem4) (by kernel_rfl) (t := 53) (by kernel_rfl) (by kernel_rfl)
  · exact globAt_ints (l := Rows.tellBackRow.laid) (n := "internal/strconv.uint64pow10") (k := .u64) (zs := Lib.pow10Tab) h (TellBack_mem5) (by kernel_rfl) (t := 130) (by kernel_rfl) (e := 110) (m := 20) (by kernel_rfl) (by kernel_rfl) (by kernel_rfl) (by kernel_rfl) (by decide)
theorem TellBack_lifted (os : Os) (started : os.Started) (H : Type) (enc : TypeId × Value → H) :
    ReturnsInHanded {} Tryd.checked os 4 .any (fun w args => (Rows.tellBackSpec.pre enc Tryd.prog Tryd.f4 [] false w args ∧ laidMetH Tryd.prog Rows.tellBackRow.laid w) ∧ sizedMet enc Tryd.prog Tryd.f4 (OpenSpec.ofChange Rows.tellBackSpec) false w args)
      (Rows.tellBackSpec.post enc Tryd.prog Tryd.f4 false true false false) :=
  law_row_laid (Kd := Tryd.checked) (C := C_lodgerlaw28_TellBack) rfl (f := 4) (fn := Tryd.f4) Tryd.func4 (by kernel_rfl) (by kernel_rfl) (s := Rows.tellBackSpec) rfl (ps := [22, 22, 9]) rfl
    (fun H ds h => by match ds, h with | [d0, d1, d2], _ => rfl) (rt := 4) rfl (by kernel_rfl) (by kernel_rfl) (by kernel_rfl) ok_lodgerlaw28_TellBack rfl (tabOK_of (l := tab) rfl tabF) envFill envOK
    (X := fun w => laidMetH Tryd.prog Rows.tellBackRow.laid w) (fun _ _ hh h => h.of_heap hh) TellBack_glob TellBack_pure os started
    (ChangeSpec.witness_shaped (enc := enc) (C := Tryd.checked) (os := os) (X := fun w _ => laidMetH Tryd.prog Rows.tellBackRow.laid w) false (World.laidAll Tryd.prog os Rows.tellBackRow.laid) #[.slice none 0 0, .slice none 0 0, .string ⟨#[]⟩] 8 (World.laidAll_os _ _ _) (World.shaped_of_ZipB (by kernel_rfl) (by kernel_rfl)) (by kernel_rfl) (by kernel_rfl) (by kernel_rfl)
      (by rw [MakeChecks.laidMetH_plain _ _ _ (by kernel_rfl)]; exact laidMet_laidAll _ (by kernel_rfl) (by kernel_rfl)))
theorem TellBack_row : Rows.TellBackSaid :=
  OpenClaim.holds_of_wide 4 Tryd.f4 rfl rfl rfl rfl rfl rfl rfl ⟨rfl, rfl, rfl, rfl, rfl⟩ rfl rfl rfl rfl rfl (by kernel_rfl) Tryd.func4 (by kernel_rfl)
    (of_decide_eq_true (by kernel_rfl)) (by unfold Func.isWrapper; first | (rw [if_pos (by decide +kernel)]; kernel_rfl) | (rw [if_neg (by decide +kernel)]; exact ⟨rfl, rfl⟩))
    (fun os started H enc _ => TellBack_lifted os started H enc)
theorem TellBack_holds : Rows.TellBackCardSaid :=
  Claim7.holds_tied_plain_at .later [] [.data, .data, .data, .data, .sentinel, .sentinel, .pinned] true (true, "c1b47fc38a116e83360cfb16a616ff063b5271189e5f16727b5bdd1d888a053e") true
    TellBack_row (fun _ h => by cases h) (by kernel_rfl) (fun _ h => by cases h) tellBack_row_tie rfl ⟨rfl, rfl⟩ (by kernel_rfl) rfl
    (fun f fn hf hfn => by
      obtain rfl : f = 4 := Option.some.inj ((show Tryd.prog.funcNamed "lodger/lodgerlaw28.TellBack" = some 4 by kernel_rfl).symm.trans hf) |>.symm
      obtain rfl : fn = Tryd.f4 := (Option.some.inj (Tryd.func4.symm.trans hfn)).symm
      exact ⟨by kernel_rfl, fun j t ht => by
        rw [show Tryd.f4.params = #[22, 22, 9] from rfl] at ht
        have hm : t ∈ [22, 22, 9] := by simpa using Array.mem_of_getElem? ht
        have hall : ([22, 22, 9].all fun u => !Tryd.prog.wantsStandIn u) = true := by kernel_rfl
        exact (show Tryd.prog.wantsStandIn t = false by simpa using List.all_eq_true.1 hall t hm)⟩)
    (by kernel_rfl)
end Go.Proofs.YtolndkmjmlgcpaaDoor
