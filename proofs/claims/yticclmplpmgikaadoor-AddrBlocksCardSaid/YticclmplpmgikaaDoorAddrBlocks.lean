/- AddrBlocks of lodger's layer: for every input the law returns true, and each argument reads afterwards as it read before; the listed variable holds what the program's text lays. -/
import Derived.Test.YticclmplpmgikaaDoorLvO6AddrBlocks
import Derived.Test.YticclmplpmgikaaDoorLvA7
import Derived.Test.YticclmplpmgikaaDoorRows
import Derived.Test.YticclmplpmgikaaDoorTie
import Derived.Test.YticclmplpmgikaaDoorCards
import Derived.Lay
import Derived.MakeChecks
import Derived.Test.YticclmplpmgikaaDoorLvGlob
import Derived.WalkKit
import Derived.ProofKit
import Derived.Stop.Joined
import Derived.SevenTiedAt
namespace Go.Proofs.YticclmplpmgikaaDoor
set_option linter.all false
open Go Go.Lv Go.Lv.Ld Go.Proofs Go.RowKit Go.ChangeShapes Go.WideShapes Go.ChangeAt
set_option maxRecDepth 100000
theorem AddrBlocks_mem0 : ("strconv.ErrSyntax", (Rows.laid_strconv_ErrSyntax : DataW Unit)) ∈ Rows.addrBlocksRow.laid := by
  simp only [Rows.addrBlocksRow, List.mem_cons, true_or, or_true]
theorem AddrBlocks_mem1 : ("strconv.ErrRange", (Rows.laid_strconv_ErrRange : DataW Unit)) ∈ Rows.addrBlocksRow.laid := by
  simp only [Rows.addrBlocksRow, List.mem_cons, true_or, or_true]
theorem AddrBlocks_mem3 : ("internal/strconv.uint64pow10", (Lib.tabData .u64 Lib.pow10Tab : DataW Unit)) ∈ Rows.addrBlocksRow.laid := by
  have e : (Lib.tabData .u64 Lib.pow10Tab : DataW Unit) = Rows.laid_internal_strconv_uint64pow10 := by kernel_rfl
  rw [e]
  simp only [Rows.addrBlocksRow, List.mem_cons, true_or, or_true]
attribute [local irreducible] lodgerlaw04_AddrBlocks
theorem AddrBlocks_pure : ∀ cs, ArgsOK E sp_lodgerlaw04_AddrBlocks.args cs → ∃ r, sp_lodgerlaw04_AddrBlocks.run cs = some r ∧ sp_lodgerlaw04_AddrBlocks.enc r = [⟨.bool, true⟩] := fun cs h => by
  obtain ⟨x0, x1, rfl, h0, h1⟩ := args2 h
  have e := run2_eq (R := Bool) (a := u32) (b := .int .u8) lodgerlaw04_AddrBlocks x0 x1
  exact ⟨true, e.trans (pure_AddrBlocks x0 x1 h0 h1), rfl⟩
theorem AddrBlocks_glob (W : World) (h : laidMetH Tryd.prog Rows.addrBlocksRow.laid W) : GlobOK C_lodgerlaw04_AddrBlocks (sig W) W := globOK_of (l := gtab) rfl fun p hp => by
  rw [MakeChecks.laidMetH_plain _ _ _ (by kernel_rfl)] at h
  simp only [gtab, List.mem_cons, List.not_mem_nil, or_false] at hp
  rcases hp with rfl | rfl | rfl
  · exact globAt_err (l := Rows.addrBlocksRow.laid) (n := "strconv.ErrSyntax") h (AddrBlocks_mem0) (by kernel_rfl) (t := 53) (by kernel_rfl) (by kernel_rfl)
  · exact globAt_err (l := Rows.addrBlocksRow.laid) (n := "strconv.ErrRange") h (AddrBlocks_mem1) (by kernel_rfl) (t := 53) (by kernel_rfl) (by kernel_rfl)
  · exact globAt_ints (l := Rows.addrBlocksRow.laid) (n := "internal/strconv.uint64pow10") (k := .u64) (zs := Lib.pow10Tab) h (AddrBlocks_mem3) (by kernel_rfl) (t := 99) (by kernel_rfl) (e := 43) (m := 20) (by kernel_rfl) (by kernel_rfl) (by kernel_rfl) (by kernel_rfl) (by decide)
theorem AddrBlocks_lifted (os : Os) (started : os.Started) (H : Type) (enc : TypeId × Value → H) :
    ReturnsInHanded {} Tryd.checked os 5 .any (fun w args => (Rows.addrBlocksSpec.pre enc Tryd.prog Tryd.f5 [] false w args ∧ laidMetH Tryd.prog Rows.addrBlocksRow.laid w) ∧ sizedMet enc Tryd.prog Tryd.f5 (OpenSpec.ofChange Rows.addrBlocksSpec) false w args)
      (Rows.addrBlocksSpec.post enc Tryd.prog Tryd.f5 false true false false) :=
  law_row_laid (Kd := Tryd.checked) (C := C_lodgerlaw04_AddrBlocks) rfl (f := 5) (fn := Tryd.f5) Tryd.func5 (by kernel_rfl) (by kernel_rfl) (s := Rows.addrBlocksSpec) rfl (ps := [22, 5]) rfl
    (fun H ds h => by match ds, h with | [d0, d1], _ => rfl) (rt := 4) rfl (by kernel_rfl) (by kernel_rfl) (by kernel_rfl) ok_lodgerlaw04_AddrBlocks rfl (tabOK_of (l := tab) rfl tabF) envFill envOK
    (X := fun w => laidMetH Tryd.prog Rows.addrBlocksRow.laid w) (fun _ _ hh h => h.of_heap hh) AddrBlocks_glob AddrBlocks_pure os started
    (ChangeSpec.witness_shaped (enc := enc) (C := Tryd.checked) (os := os) (X := fun w _ => laidMetH Tryd.prog Rows.addrBlocksRow.laid w) false (World.laidAll Tryd.prog os Rows.addrBlocksRow.laid) #[.int .u32 0, .int .u8 0] 8 (World.laidAll_os _ _ _) (World.shaped_of_ZipB (by kernel_rfl) (by kernel_rfl)) (by kernel_rfl) (by kernel_rfl) (by kernel_rfl)
      (by rw [MakeChecks.laidMetH_plain _ _ _ (by kernel_rfl)]; exact laidMet_laidAll _ (by kernel_rfl) (by kernel_rfl)))
theorem AddrBlocks_row : Rows.AddrBlocksSaid :=
  OpenClaim.holds_of_wide 5 Tryd.f5 rfl rfl rfl rfl rfl rfl rfl ⟨rfl, rfl, rfl, rfl, rfl⟩ rfl rfl rfl rfl rfl (by kernel_rfl) Tryd.func5 (by kernel_rfl)
    (of_decide_eq_true (by kernel_rfl)) (by unfold Func.isWrapper; first | (rw [if_pos (by decide +kernel)]; kernel_rfl) | (rw [if_neg (by decide +kernel)]; exact ⟨rfl, rfl⟩))
    (fun os started H enc _ => AddrBlocks_lifted os started H enc)
theorem AddrBlocks_holds : Rows.AddrBlocksCardSaid :=
  Claim7.holds_tied_plain_at .later [] [.data, .data, .data, .data, .sentinel, .sentinel, .pinned] true (true, "7fb0621b10c21ca19528b662f47bdb7785d1dd5083b6ce1cc283be455bd3b5f9") true
    AddrBlocks_row (fun _ h => by cases h) (by kernel_rfl) (fun _ h => by cases h) addrBlocks_row_tie rfl ⟨rfl, rfl⟩ (by kernel_rfl) rfl
    (fun f fn hf hfn => by
      obtain rfl : f = 5 := Option.some.inj ((show Tryd.prog.funcNamed "lodger/lodgerlaw04.AddrBlocks" = some 5 by kernel_rfl).symm.trans hf) |>.symm
      obtain rfl : fn = Tryd.f5 := (Option.some.inj (Tryd.func5.symm.trans hfn)).symm
      exact ⟨by kernel_rfl, fun j t ht => by
        rw [show Tryd.f5.params = #[22, 5] from rfl] at ht
        have hm : t ∈ [22, 5] := by simpa using Array.mem_of_getElem? ht
        have hall : ([22, 5].all fun u => !Tryd.prog.wantsStandIn u) = true := by kernel_rfl
        exact (show Tryd.prog.wantsStandIn t = false by simpa using List.all_eq_true.1 hall t hm)⟩)
    (by kernel_rfl)
end Go.Proofs.YticclmplpmgikaaDoor
