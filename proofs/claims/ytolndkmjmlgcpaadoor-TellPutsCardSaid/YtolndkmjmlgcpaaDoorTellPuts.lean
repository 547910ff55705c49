/- TellPuts of lodger's layer: for every input the law returns true, and each argument reads afterwards as it read before; the listed variable holds what the program's text lays. -/
import Derived.Test.YtolndkmjmlgcpaaDoorOP
import Derived.Test.YtolndkmjmlgcpaaDoorZ
import Derived.Test.YtolndkmjmlgcpaaDoorRows
import Derived.Test.YtolndkmjmlgcpaaDoorTie
import Derived.Test.YtolndkmjmlgcpaaDoorCards
import Derived.Lay
import Derived.MakeChecks
import Derived.Test.YtolndkmjmlgcpaaDoorE
import Derived.WalkKit
import Derived.ProofKit
import Derived.Stop.Joined
import Derived.SevenTiedAt
namespace Go.Proofs.YtolndkmjmlgcpaaDoor
set_option linter.all false
open Go Go.Lv Go.Lv.Ld Go.Proofs Go.RowKit Go.ChangeShapes Go.WideShapes Go.ChangeAt
set_option maxRecDepth 100000
theorem TellPuts_mem3 : ("strconv.ErrSyntax", (Rows.laid_strconv_ErrSyntax : DataW Unit)) ∈ Rows.tellPutsRow.laid := by
  simp only [Rows.tellPutsRow, List.mem_cons, true_or, or_true]
theorem TellPuts_mem4 : ("strconv.ErrRange", (Rows.laid_strconv_ErrRange : DataW Unit)) ∈ Rows.tellPutsRow.laid := by
  simp only [Rows.tellPutsRow, List.mem_cons, true_or, or_true]
theorem TellPuts_mem5 : ("internal/strconv.uint64pow10", (Lib.tabData .u64 Lib.pow10Tab : DataW Unit)) ∈ Rows.tellPutsRow.laid := by
  have e : (Lib.tabData .u64 Lib.pow10Tab : DataW Unit) = Rows.laid_internal_strconv_uint64pow10 := by kernel_rfl
  rw [e]
  simp only [Rows.tellPutsRow, List.mem_cons, true_or, or_true]
attribute [local irreducible] lodgerlaw28_TellPuts
theorem TellPuts_pure : ∀ cs, ArgsOK E sp_lodgerlaw28_TellPuts.args cs → ∃ r, sp_lodgerlaw28_TellPuts.run cs = some r ∧ sp_lodgerlaw28_TellPuts.enc r = [⟨.bool, true⟩] := fun cs h => by
  obtain ⟨x0, x1, rfl, h0, h1⟩ := args2 h
  have e := run2_eq (R := Bool) (a := .slice (.st 6)) (b := .str) lodgerlaw28_TellPuts x0 x1
  exact ⟨true, e.trans (pure_TellPuts x0 x1 h0 h1), rfl⟩
theorem TellPuts_glob (W : World) (h : laidMetH Tryd.prog Rows.tellPutsRow.laid W) : GlobOK C_lodgerlaw28_TellPuts (sig W) W := globOK_of (l := gtab) rfl fun p hp => by
  rw [MakeChecks.laidMetH_plain _ _ _ (by kernel_rfl)] at h
  simp only [gtab, List.mem_cons, List.not_mem_nil, or_false] at hp
  rcases hp with rfl | rfl | rfl
  · exact globAt_err (l := Rows.tellPutsRow.laid) (n := "strconv.ErrSyntax") h (TellPuts_mem3) (by kernel_rfl) (t := 53) (by kernel_rfl) (by kernel_rfl)
  · exact globAt_err (l := Rows.tellPutsRow.laid) (n := "strconv.ErrRange") h (TellPuts_mem4) (by kernel_rfl) (t := 53) (by kernel_rfl) (by kernel_rfl)
  · exact globAt_ints (l := Rows.tellPutsRow.laid) (n := "internal/strconv.uint64pow10") (k := .u64) (zs := Lib.pow10Tab) h (TellPuts_mem5) (by kernel_rfl) (t := 130) (by kernel_rfl) (e := 110) (m := 20) (by kernel_rfl) (by kernel_rfl) (by kernel_rfl) (by kernel_rfl) (by decide)
theorem TellPuts_lifted (os : Os) (started : os.Started) (H : Type) (enc : TypeId × Value → H) :
    ReturnsInHanded {} Tryd.checked os 3 .any (fun w args => (Rows.tellPutsSpec.pre enc Tryd.prog Tryd.f3 [] false w args ∧ laidMetH Tryd.prog Rows.tellPutsRow.laid w) ∧ sizedMet enc Tryd.prog Tryd.f3 (OpenSpec.ofChange Rows.tellPutsSpec) false w args)
      (Rows.tellPutsSpec.post enc Tryd.prog Tryd.f3 false true false false) :=
  law_row_laid (Kd := Tryd.checked) (C := C_lodgerlaw28_TellPuts) rfl (f := 3) (fn := Tryd.f3) Tryd.func3 (by kernel_rfl) (by kernel_rfl) (s := Rows.tellPutsSpec) rfl (ps := [22, 9]) rfl
    (fun H ds h => by match ds, h with | [d0, d1], _ => rfl) (rt := 4) rfl (by kernel_rfl) (by kernel_rfl) (by kernel_rfl) ok_lodgerlaw28_TellPuts rfl (tabOK_of (l := tab) rfl tabF) envFill envOK
    (X := fun w => laidMetH Tryd.prog Rows.tellPutsRow.laid w) (fun _ _ hh h => h.of_heap hh) TellPuts_glob TellPuts_pure os started
    (ChangeSpec.witness_shaped (enc := enc) (C := Tryd.checked) (os := os) (X := fun w _ => laidMetH Tryd.prog Rows.tellPutsRow.laid w) false (World.laidAll Tryd.prog os Rows.tellPutsRow.laid) #[.slice none 0 0, .string ⟨#[]⟩] 8 (World.laidAll_os _ _ _) (World.shaped_of_ZipB (by kernel_rfl) (by kernel_rfl)) (by kernel_rfl) (by kernel_rfl) (by kernel_rfl)
      (by rw [MakeChecks.laidMetH_plain _ _ _ (by kernel_rfl)]; exact laidMet_laidAll _ (by kernel_rfl) (by kernel_rfl)))
theorem TellPuts_row : Rows.TellPutsSaid :=
  OpenClaim.holds_of_wide 3 Tryd.f3 rfl rfl rfl rfl rfl rfl rfl ⟨rfl, rfl, rfl, rfl, rfl⟩ rfl rfl rfl rfl rfl (by kernel_rfl) Tryd.func3 (by kernel_rfl)
    (of_decide_eq_true (by kernel_rfl)) (by unfold Func.isWrapper; first | (rw [if_pos (by decide +kernel)]; kernel_rfl) | (rw [if_neg (by decide +kernel)]; exact ⟨rfl, rfl⟩))
    (fun os started H enc _ => TellPuts_lifted os started H enc)
theorem TellPuts_holds : Rows.TellPutsCardSaid :=
  Claim7.holds_tied_plain_at .later [] [.data, .data, .data, .data, .sentinel, .sentinel, .pinned] true (true, "c1b47fc38a116e83360cfb16a616ff063b5271189e5f16727b5bdd1d888a053e") true
    TellPuts_row (fun _ h => by cases h) (by kernel_rfl) (fun _ h => by cases h) tellPuts_row_tie rfl ⟨rfl, rfl⟩ (by kernel_rfl) rfl
    (fun f fn hf hfn => by
      obtain rfl : f = 3 := Option.some.inj ((show Tryd.prog.funcNamed "lodger/lodgerlaw28.TellPuts" = some 3 by kernel_rfl).symm.trans hf) |>.symm
      obtain rfl : fn = Tryd.f3 := (Option.some.inj (Tryd.func3.symm.trans hfn)).symm
      exact ⟨by kernel_rfl, fun j t ht => by
        rw [show Tryd.f3.params = #[22, 9] from rfl] at ht
        have hm : t ∈ [22, 9] := by simpa using Array.mem_of_getElem? ht
        have hall : ([22, 9].all fun u => !Tryd.prog.wantsStandIn u) = true := by kernel_rfl
        exact (show Tryd.prog.wantsStandIn t = false by simpa using List.all_eq_true.1 hall t hm)⟩)
    (by kernel_rfl)
end Go.Proofs.YtolndkmjmlgcpaaDoor
