/- AddrBack of lodger's layer: for every input the law returns true, and each argument reads afterwards as it read before; the listed variable holds what the program's text lays. -/
import Derived.Test.YticclmplpmgikaaDoorLvO6AddrBack
import Derived.Test.YticclmplpmgikaaDoorLvA6
import Derived.Test.YticclmplpmgikaaDoorRows
import Derived.Test.YticclmplpmgikaaDoorTie
import Derived.Test.YticclmplpmgikaaDoorCards
import Derived.Lay
import Derived.MakeChecks
import Derived.Test.YticclmplpmgikaaDoorLvGlob
import Derived.WalkKit
import Derived.ProofKit
import Derived.Stop.Joined
import Derived.SevenTiedAt
namespace Go.Proofs.YticclmplpmgikaaDoor
set_option linter.all false
open Go Go.Lv Go.Lv.Ld Go.Proofs Go.RowKit Go.ChangeShapes Go.WideShapes Go.ChangeAt
set_option maxRecDepth 100000
theorem AddrBack_mem0 : ("strconv.ErrSyntax", (Rows.laid_strconv_ErrSyntax : DataW Unit)) ∈ Rows.addrBackRow.laid := by
  simp only [Rows.addrBackRow, List.mem_cons, true_or, or_true]
theorem AddrBack_mem1 : ("strconv.ErrRange", (Rows.laid_strconv_ErrRange : DataW Unit)) ∈ Rows.addrBackRow.laid := by
  simp only [Rows.addrBackRow, List.mem_cons, true_or, or_true]
theorem AddrBack_mem3 : ("internal/strconv.uint64pow10", (Lib.tabData .u64 Lib.pow10Tab : DataW Unit)) ∈ Rows.addrBackRow.laid := by
  have e : (Lib.tabData .u64 Lib.pow10Tab : DataW Unit) = Rows.laid_internal_strconv_uint64pow10 := by kernel_rfl
  rw [e]
  simp only [Rows.addrBackRow, List.mem_cons, true_or, or_true]
attribute [local irreducible] lodgerlaw04_AddrBack
theorem AddrBack_pure : ∀ cs, ArgsOK E sp_lodgerlaw04_AddrBack.args cs → ∃ r, sp_lodgerlaw04_AddrBack.run cs = some r ∧ sp_lodgerlaw04_AddrBack.enc r = [⟨.bool, true⟩] := fun cs h => by
  obtain ⟨x0, x1, x2, x3, rfl, h0, h1, h2, h3⟩ := args4 h
  have e := run4_eq (R := Bool) (a := u32) (b := u32) (c := .st 0) (d := .str) lodgerlaw04_AddrBack x0 x1 x2 x3
  exact ⟨true, e.trans (pure_AddrBack x0 x1 x2 x3 h0 h1 h2 h3), rfl⟩
theorem AddrBack_glob (W : World) (h : laidMetH Tryd.prog Rows.addrBackRow.laid W) : GlobOK C_lodgerlaw04_AddrBack (sig W) W := globOK_of (l := gtab) rfl fun p hp => by
  rw [MakeChecks.laidMetH_plain _ _ _ (by kernel_rfl)] at h
  simp only [gtab, List.mem_cons, List.not_mem_nil, or_false] at hp
  rcases hp with rfl | rfl | rfl
  · exact globAt_err (l := Rows.addrBackRow.laid) (n := "strconv.ErrSyntax") h (AddrBack_mem0) (by kernel_rfl) (t := 53) (by kernel_rfl) (by kernel_rfl)
  · exact globAt_err (l := Rows.addrBackRow.laid) (n := "strconv.ErrRange") h (AddrBack_mem1) (by kernel_rfl) (t := 53) (by kernel_rfl) (by kernel_rfl)
  · exact globAt_ints (l := Rows.addrBackRow.laid) (n := "internal/strconv.uint64pow10") (k := .u64) (zs := Lib.pow10Tab) h (AddrBack_mem3) (by kernel_rfl) (t := 99) (by kernel_rfl) (e := 43) (m := 20) (by kernel_rfl) (by kernel_rfl) (by kernel_rfl) (by kernel_rfl) (by decide)
theorem AddrBack_lifted (os : Os) (started : os.Started) (H : Type) (enc : TypeId × Value → H) :
    ReturnsInHanded {} Tryd.checked os 4 .any (fun w args => (Rows.addrBackSpec.pre enc Tryd.prog Tryd.f4 [] false w args ∧ laidMetH Tryd.prog Rows.addrBackRow.laid w) ∧ sizedMet enc Tryd.prog Tryd.f4 (OpenSpec.ofChange Rows.addrBackSpec) false w args)
      (Rows.addrBackSpec.post enc Tryd.prog Tryd.f4 false true false false) :=
  law_row_laid (Kd := Tryd.checked) (C := C_lodgerlaw04_AddrBack) rfl (f := 4) (fn := Tryd.f4) Tryd.func4 (by kernel_rfl) (by kernel_rfl) (s := Rows.addrBackSpec) rfl (ps := [22, 22, 24, 9]) rfl
    (fun H ds h => by match ds, h with | [d0, d1, d2, d3], _ => rfl) (rt := 4) rfl (by kernel_rfl) (by kernel_rfl) (by kernel_rfl) ok_lodgerlaw04_AddrBack rfl (tabOK_of (l := tab) rfl tabF) envFill envOK
    (X := fun w => laidMetH Tryd.prog Rows.addrBackRow.laid w) (fun _ _ hh h => h.of_heap hh) AddrBack_glob AddrBack_pure os started
    (ChangeSpec.witness_shaped (enc := enc) (C := Tryd.checked) (os := os) (X := fun w _ => laidMetH Tryd.prog Rows.addrBackRow.laid w) false (World.laidAll Tryd.prog os Rows.addrBackRow.laid) #[.int .u32 0, .int .u32 0, .agg #[.int .u32 0, .int .i64 0], .string ⟨#[]⟩] 8 (World.laidAll_os _ _ _) (World.shaped_of_ZipB (by kernel_rfl) (by kernel_rfl)) (by kernel_rfl) (by kernel_rfl) (by kernel_rfl)
      (by rw [MakeChecks.laidMetH_plain _ _ _ (by kernel_rfl)]; exact laidMet_laidAll _ (by kernel_rfl) (by kernel_rfl)))
theorem AddrBack_row : Rows.AddrBackSaid :=
  OpenClaim.holds_of_wide 4 Tryd.f4 rfl rfl rfl rfl rfl rfl rfl ⟨rfl, rfl, rfl, rfl, rfl⟩ rfl rfl rfl rfl rfl (by kernel_rfl) Tryd.func4 (by kernel_rfl)
    (of_decide_eq_true (by kernel_rfl)) (by unfold Func.isWrapper; first | (rw [if_pos (by decide +kernel)]; kernel_rfl) | (rw [if_neg (by decide +kernel)]; exact ⟨rfl, rfl⟩))
    (fun os started H enc _ => AddrBack_lifted os started H enc)
theorem AddrBack_holds : Rows.AddrBackCardSaid :=
  Claim7.holds_tied_plain_at .later [] [.data, .data, .data, .data, .sentinel, .sentinel, .pinned] true (true, "7fb0621b10c21ca19528b662f47bdb7785d1dd5083b6ce1cc283be455bd3b5f9") true
    AddrBack_row (fun _ h => by cases h) (by kernel_rfl) (fun _ h => by cases h) addrBack_row_tie rfl ⟨rfl, rfl⟩ (by kernel_rfl) rfl
    (fun f fn hf hfn => by
      obtain rfl : f = 4 := Option.some.inj ((show Tryd.prog.funcNamed "lodger/lodgerlaw04.AddrBack" = some 4 by kernel_rfl).symm.trans hf) |>.symm
      obtain rfl : fn = Tryd.f4 := (Option.some.inj (Tryd.func4.symm.trans hfn)).symm
      exact ⟨by kernel_rfl, fun j t ht => by
        rw [show Tryd.f4.params = #[22, 22, 24, 9] from rfl] at ht
        have hm : t ∈ [22, 22, 24, 9] := by simpa using Array.mem_of_getElem? ht
        have hall : ([22, 22, 24, 9].all fun u => !Tryd.prog.wantsStandIn u) = true := by kernel_rfl
        exact (show Tryd.prog.wantsStandIn t = false by simpa using List.all_eq_true.1 hall t hm)⟩)
    (by kernel_rfl)
end Go.Proofs.YticclmplpmgikaaDoor
