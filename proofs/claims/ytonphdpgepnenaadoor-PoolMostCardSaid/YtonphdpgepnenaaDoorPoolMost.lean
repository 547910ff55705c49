/- PoolMost of lodger's layer: for every input the law returns true, and each argument reads afterwards as it read before; the listed variable holds what the program's text lays. -/
import Derived.Test.YtonphdpgepnenaaDoorLvO5PoolMost
import Derived.Test.YtonphdpgepnenaaDoorLvPl3
import Derived.Test.YtonphdpgepnenaaDoorRows
import Derived.Test.YtonphdpgepnenaaDoorTie
import Derived.Test.YtonphdpgepnenaaDoorCards
import Derived.Lay
import Derived.MakeChecks
import Derived.Test.YtonphdpgepnenaaDoorLvGlob2
import Derived.WalkKit
import Derived.ProofKit
import Derived.Stop.Joined
import Derived.SevenTiedAt
namespace Go.Proofs.YtonphdpgepnenaaDoor
set_option linter.all false
open Go Go.Lv Go.Lv.Ld Go.Proofs Go.RowKit Go.ChangeShapes Go.WideShapes Go.ChangeAt
set_option maxRecDepth 100000
theorem PoolMost_mem0 : ("lodger/pool.kinds", (kindsD [(1, 121, "lodger/pool.grants"), (2, 122, "lodger/pool.exacts"), (3, 123, "lodger/pool.releases"), (4, 123, "lodger/pool.releases"), (5, 122, "lodger/pool.exacts"), (6, 124, "lodger/pool.snaps")] : DataW Unit)) ∈ Rows.poolMostRow.laid := by
  have e : (kindsD [(1, 121, "lodger/pool.grants"), (2, 122, "lodger/pool.exacts"), (3, 123, "lodger/pool.releases"), (4, 123, "lodger/pool.releases"), (5, 122, "lodger/pool.exacts"), (6, 124, "lodger/pool.snaps")] : DataW Unit) = Rows.laid_lodger_pool_kinds := by kernel_rfl
  rw [e]
  simp only [Rows.poolMostRow, List.mem_cons, true_or, or_true]
theorem PoolMost_mem1 : ("lodger/ask.single", (boolsD [false, false, true, true, false, true] : DataW Unit)) ∈ Rows.poolMostRow.laid := by
  have e : (boolsD [false, false, true, true, false, true] : DataW Unit) = Rows.laid_lodger_ask_single := by kernel_rfl
  rw [e]
  simp only [Rows.poolMostRow, List.mem_cons, true_or, or_true]
attribute [local irreducible] lodgerlaw21_PoolMost
theorem PoolMost_pure : ∀ cs, ArgsOK E sp_lodgerlaw21_PoolMost.args cs → ∃ r, sp_lodgerlaw21_PoolMost.run cs = some r ∧ sp_lodgerlaw21_PoolMost.enc r = [⟨.bool, true⟩] := fun cs h => by
  obtain ⟨x0, x1, rfl, h0, h1⟩ := args2 h
  have e := run2_eq (R := Bool) (a := .st 1) (b := .st 2) lodgerlaw21_PoolMost x0 x1
  exact ⟨true, e.trans (pure_PoolMost x0 x1 h0 h1), rfl⟩
theorem PoolMost_glob (W : World) (h : laidMetH Tryd.prog Rows.poolMostRow.laid W) : GlobOK C_lodgerlaw21_PoolMost (sig W) W := globOK_of (l := gtab) rfl fun p hp => by
  rw [MakeChecks.laidMetH_plain _ _ _ (by kernel_rfl)] at h
  simp only [gtab, List.mem_cons, List.not_mem_nil, or_false] at hp
  rcases hp with rfl | rfl
  · exact globAt_kinds (l := Rows.poolMostRow.laid) (n := "lodger/pool.kinds") (es := [(1, 121, "lodger/pool.grants"), (2, 122, "lodger/pool.exacts"), (3, 123, "lodger/pool.releases"), (4, 123, "lodger/pool.releases"), (5, 122, "lodger/pool.exacts"), (6, 124, "lodger/pool.snaps")]) h PoolMost_mem0 (by kernel_rfl) (t := 85) (by kernel_rfl) (k := 3) (e := 73) (by kernel_rfl) (by kernel_rfl) (by kernel_rfl) (by kernel_rfl)
  · exact globAt_bools (l := Rows.poolMostRow.laid) (n := "lodger/ask.single") (zs := [false, false, true, true, false, true]) h PoolMost_mem1 (by kernel_rfl) (t := 101) (by kernel_rfl) (e := 4) (m := 6) (by kernel_rfl) (by kernel_rfl) (by kernel_rfl) (by kernel_rfl) (by decide)
theorem PoolMost_lifted (os : Os) (started : os.Started) (H : Type) (enc : TypeId × Value → H) :
    ReturnsInHanded {} Tryd.checked os 5 .any (fun w args => (Rows.poolMostSpec.pre enc Tryd.prog Tryd.f5 [] false w args ∧ laidMetH Tryd.prog Rows.poolMostRow.laid w) ∧ sizedMet enc Tryd.prog Tryd.f5 (OpenSpec.ofChange Rows.poolMostSpec) false w args)
      (Rows.poolMostSpec.post enc Tryd.prog Tryd.f5 false true false false) :=
  law_row_laid (Kd := Tryd.checked) (C := C_lodgerlaw21_PoolMost) rfl (f := 5) (fn := Tryd.f5) Tryd.func5 (by kernel_rfl) (by kernel_rfl) (s := Rows.poolMostSpec) rfl (ps := [27, 30]) rfl
    (fun H ds h => by match ds, h with | [d0, d1], _ => rfl) (rt := 4) rfl (by kernel_rfl) (by kernel_rfl) (by kernel_rfl) ok_lodgerlaw21_PoolMost rfl (tabOK_of (l := tab) rfl tabF) envFill envOK
    (X := fun w => laidMetH Tryd.prog Rows.poolMostRow.laid w) (fun _ _ hh h => h.of_heap hh) PoolMost_glob PoolMost_pure os started
    (ChangeSpec.witness_shaped (enc := enc) (C := Tryd.checked) (os := os) (X := fun w _ => laidMetH Tryd.prog Rows.poolMostRow.laid w) false (World.doorLaid Tryd.prog 600 os) #[.agg #[.int .u32 0, .int .i64 0, .slice none 0 0, .int .i64 0, .int .i64 0, .int .i64 0, .int .i64 0], .agg #[.int .i64 0, .int .u32 0, .slice none 0 0]] 8 rfl (World.shaped_of_RefB (by kernel_rfl) (by kernel_rfl)) (by kernel_rfl) (by kernel_rfl) (by kernel_rfl)
      (by rw [MakeChecks.laidMetH_plain _ _ _ (by kernel_rfl)]; exact laidMet_of_run' 8 (by kernel_rfl) (by kernel_rfl)))
theorem PoolMost_row : Rows.PoolMostSaid :=
  OpenClaim.holds_of_wide 5 Tryd.f5 rfl rfl rfl rfl rfl rfl rfl ⟨rfl, rfl, rfl, rfl, rfl⟩ rfl rfl rfl rfl rfl (by kernel_rfl) Tryd.func5 (by kernel_rfl)
    (of_decide_eq_true (by kernel_rfl)) (by unfold Func.isWrapper; first | (rw [if_pos (by decide +kernel)]; kernel_rfl) | (rw [if_neg (by decide +kernel)]; exact ⟨rfl, rfl⟩))
    (fun os started H enc _ => PoolMost_lifted os started H enc)
theorem PoolMost_holds : Rows.PoolMostCardSaid :=
  Claim7.holds_tied_plain_at .later [] [.data, .mapped] true (true, "db3ceb2890fb9e92b4785099fcc56a5c33ec1c8a3068167c2052ed145ca4761f") false
    PoolMost_row (fun _ h => by cases h) (by kernel_rfl) (fun _ h => by cases h) poolMost_row_tie rfl ⟨rfl, rfl⟩ (by kernel_rfl) rfl
    (fun f fn hf hfn => by
      obtain rfl : f = 5 := Option.some.inj ((show Tryd.prog.funcNamed "lodger/lodgerlaw21.PoolMost" = some 5 by kernel_rfl).symm.trans hf) |>.symm
      obtain rfl : fn = Tryd.f5 := (Option.some.inj (Tryd.func5.symm.trans hfn)).symm
      exact ⟨by kernel_rfl, fun j t ht => by
        rw [show Tryd.f5.params = #[27, 30] from rfl] at ht
        have hm : t ∈ [27, 30] := by simpa using Array.mem_of_getElem? ht
        have hall : ([27, 30].all fun u => !Tryd.prog.wantsStandIn u) = true := by kernel_rfl
        exact (show Tryd.prog.wantsStandIn t = false by simpa using List.all_eq_true.1 hall t hm)⟩)
    (by kernel_rfl)
end Go.Proofs.YtonphdpgepnenaaDoor
