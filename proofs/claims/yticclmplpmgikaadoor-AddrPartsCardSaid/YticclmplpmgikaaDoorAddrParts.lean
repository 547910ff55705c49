/- AddrParts of lodger's layer: for every input the law returns true, and each argument reads afterwards as it read before; the listed variable holds what the program's text lays. -/
import Derived.Test.YticclmplpmgikaaDoorLvO6AddrParts
import Derived.Test.YticclmplpmgikaaDoorLvA7
import Derived.Test.YticclmplpmgikaaDoorRows
import Derived.Test.YticclmplpmgikaaDoorTie
import Derived.Test.YticclmplpmgikaaDoorCards
import Derived.Lay
import Derived.MakeChecks
import Derived.Test.YticclmplpmgikaaDoorLvGlob
import Derived.WalkKit
import Derived.ProofKit
import Derived.Stop.Joined
import Derived.SevenTiedAt
namespace Go.Proofs.YticclmplpmgikaaDoor
set_option linter.all false
open Go Go.Lv Go.Lv.Ld Go.Proofs Go.RowKit Go.ChangeShapes Go.WideShapes Go.ChangeAt
set_option maxRecDepth 100000
theorem AddrParts_mem0 : ("strconv.ErrSyntax", (Rows.laid_strconv_ErrSyntax : DataW Unit)) ∈ Rows.addrPartsRow.laid := by
  simp only [Rows.addrPartsRow, List.mem_cons, true_or, or_true]
theorem AddrParts_mem1 : ("strconv.ErrRange", (Rows.laid_strconv_ErrRange : DataW Unit)) ∈ Rows.addrPartsRow.laid := by
  simp only [Rows.addrPartsRow, List.mem_cons, true_or, or_true]
theorem AddrParts_mem3 : ("internal/strconv.uint64pow10", (Lib.tabData .u64 Lib.pow10Tab : DataW Unit)) ∈ Rows.addrPartsRow.laid := by
  have e : (Lib.tabData .u64 Lib.pow10Tab : DataW Unit) = Rows.laid_internal_strconv_uint64pow10 := by kernel_rfl
  rw [e]
  simp only [Rows.addrPartsRow, List.mem_cons, true_or, or_true]
attribute [local irreducible] lodgerlaw04_AddrParts
theorem AddrParts_pure : ∀ cs, ArgsOK E sp_lodgerlaw04_AddrParts.args cs → ∃ r, sp_lodgerlaw04_AddrParts.run cs = some r ∧ sp_lodgerlaw04_AddrParts.enc r = [⟨.bool, true⟩] := fun cs h => by
  obtain ⟨x0, x1, x2, x3, rfl, h0, h1, h2, h3⟩ := args4 h
  have e := run4_eq (R := Bool) (a := .int .u8) (b := .int .u8) (c := .int .u8) (d := .int .u8) lodgerlaw04_AddrParts x0 x1 x2 x3
  exact ⟨true, e.trans (pure_AddrParts x0 x1 x2 x3 h0 h1 h2 h3), rfl⟩
theorem AddrParts_glob (W : World) (h : laidMetH Tryd.prog Rows.addrPartsRow.laid W) : GlobOK C_lodgerlaw04_AddrParts (sig W) W := globOK_of (l := gtab) rfl fun p hp => by
  rw [MakeChecks.laidMetH_plain _ _ _ (by kernel_rfl)] at h
  simp only [gtab, List.mem_cons, List.not_mem_nil, or_false] at hp
  rcases hp with rfl | rfl | rfl
  · exact globAt_err (l := Rows.addrPartsRow.laid) (n := "strconv.ErrSyntax") h (AddrParts_mem0) (by kernel_rfl) (t := 53) (by kernel_rfl) (by kernel_rfl)
  · exact globAt_err (l := Rows.addrPartsRow.laid) (n := "strconv.ErrRange") h (AddrParts_mem1) (by kernel_rfl) (t := 53) (by kernel_rfl) (by kernel_rfl)
  · exact globAt_ints (l := Rows.addrPartsRow.laid) (n := "internal/strconv.uint64pow10") (k := .u64) (zs := Lib.pow10Tab) h (AddrParts_mem3) (by kernel_rfl) (t := 99) (by kernel_rfl) (e := 43) (m := 20) (by kernel_rfl) (by kernel_rfl) (by kernel_rfl) (by kernel_rfl) (by decide)
theorem AddrParts_lifted (os : Os) (started : os.Started) (H : Type) (enc : TypeId × Value → H) :
    ReturnsInHanded {} Tryd.checked os 7 .any (fun w args => (Rows.addrPartsSpec.pre enc Tryd.prog Tryd.f7 [] false w args ∧ laidMetH Tryd.prog Rows.addrPartsRow.laid w) ∧ sizedMet enc Tryd.prog Tryd.f7 (OpenSpec.ofChange Rows.addrPartsSpec) false w args)
      (Rows.addrPartsSpec.post enc Tryd.prog Tryd.f7 false true false false) :=
  law_row_laid (Kd := Tryd.checked) (C := C_lodgerlaw04_AddrParts) rfl (f := 7) (fn := Tryd.f7) Tryd.func7 (by kernel_rfl) (by kernel_rfl) (s := Rows.addrPartsSpec) rfl (ps := [5, 5, 5, 5]) rfl
    (fun H ds h => by match ds, h with | [d0, d1, d2, d3], _ => rfl) (rt := 4) rfl (by kernel_rfl) (by kernel_rfl) (by kernel_rfl) ok_lodgerlaw04_AddrParts rfl (tabOK_of (l := tab) rfl tabF) envFill envOK
    (X := fun w => laidMetH Tryd.prog Rows.addrPartsRow.laid w) (fun _ _ hh h => h.of_heap hh) AddrParts_glob AddrParts_pure os started
    (ChangeSpec.witness_shaped (enc := enc) (C := Tryd.checked) (os := os) (X := fun w _ => laidMetH Tryd.prog Rows.addrPartsRow.laid w) false (World.laidAll Tryd.prog os Rows.addrPartsRow.laid) #[.int .u8 0, .int .u8 0, .int .u8 0, .int .u8 0] 8 (World.laidAll_os _ _ _) (World.shaped_of_ZipB (by kernel_rfl) (by kernel_rfl)) (by kernel_rfl) (by kernel_rfl) (by kernel_rfl)
      (by rw [MakeChecks.laidMetH_plain _ _ _ (by kernel_rfl)]; exact laidMet_laidAll _ (by kernel_rfl) (by kernel_rfl)))
theorem AddrParts_row : Rows.AddrPartsSaid :=
  OpenClaim.holds_of_wide 7 Tryd.f7 rfl rfl rfl rfl rfl rfl rfl ⟨rfl, rfl, rfl, rfl, rfl⟩ rfl rfl rfl rfl rfl (by kernel_rfl) Tryd.func7 (by kernel_rfl)
    (of_decide_eq_true (by kernel_rfl)) (by unfold Func.isWrapper; first | (rw [if_pos (by decide +kernel)]; kernel_rfl) | (rw [if_neg (by decide +kernel)]; exact ⟨rfl, rfl⟩))
    (fun os started H enc _ => AddrParts_lifted os started H enc)
theorem AddrParts_holds : Rows.AddrPartsCardSaid :=
  Claim7.holds_tied_plain_at .later [] [.data, .data, .data, .data, .sentinel, .sentinel, .pinned] true (true, "7fb0621b10c21ca19528b662f47bdb7785d1dd5083b6ce1cc283be455bd3b5f9") true
    AddrParts_row (fun _ h => by cases h) (by kernel_rfl) (fun _ h => by cases h) addrParts_row_tie rfl ⟨rfl, rfl⟩ (by kernel_rfl) rfl
    (fun f fn hf hfn => by
      obtain rfl : f = 7 := Option.some.inj ((show Tryd.prog.funcNamed "lodger/lodgerlaw04.AddrParts" = some 7 by kernel_rfl).symm.trans hf) |>.symm
      obtain rfl : fn = Tryd.f7 := (Option.some.inj (Tryd.func7.symm.trans hfn)).symm
      exact ⟨by kernel_rfl, fun j t ht => by
        rw [show Tryd.f7.params = #[5, 5, 5, 5] from rfl] at ht
        have hm : t ∈ [5, 5, 5, 5] := by simpa using Array.mem_of_getElem? ht
        have hall : ([5, 5, 5, 5].all fun u => !Tryd.prog.wantsStandIn u) = true := by kernel_rfl
        exact (show Tryd.prog.wantsStandIn t = false by simpa using List.all_eq_true.1 hall t hm)⟩)
    (by kernel_rfl)
end Go.Proofs.YticclmplpmgikaaDoor
