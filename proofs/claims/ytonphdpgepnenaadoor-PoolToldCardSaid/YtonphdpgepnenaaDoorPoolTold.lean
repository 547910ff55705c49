/- PoolTold of lodger's layer: for every input the law returns true, and each argument reads afterwards as it read before; the listed variable holds what the program's text lays. -/
import Derived.Test.YtonphdpgepnenaaDoorLvO5PoolTold
import Derived.Test.YtonphdpgepnenaaDoorLvPl1
import Derived.Test.YtonphdpgepnenaaDoorRows
import Derived.Test.YtonphdpgepnenaaDoorTie
import Derived.Test.YtonphdpgepnenaaDoorCards
import Derived.Lay
import Derived.MakeChecks
import Derived.Test.YtonphdpgepnenaaDoorLvGlob2
import Derived.WalkKit
import Derived.ProofKit
import Derived.Stop.Joined
import Derived.SevenTiedAt
namespace Go.Proofs.YtonphdpgepnenaaDoor
set_option linter.all false
open Go Go.Lv Go.Lv.Ld Go.Proofs Go.RowKit Go.ChangeShapes Go.WideShapes Go.ChangeAt
set_option maxRecDepth 100000
theorem PoolTold_mem0 : ("lodger/pool.kinds", (kindsD [(1, 121, "lodger/pool.grants"), (2, 122, "lodger/pool.exacts"), (3, 123, "lodger/pool.releases"), (4, 123, "lodger/pool.releases"), (5, 122, "lodger/pool.exacts"), (6, 124, "lodger/pool.snaps")] : DataW Unit)) ∈ Rows.poolToldRow.laid := by
  have e : (kindsD [(1, 121, "lodger/pool.grants"), (2, 122, "lodger/pool.exacts"), (3, 123, "lodger/pool.releases"), (4, 123, "lodger/pool.releases"), (5, 122, "lodger/pool.exacts"), (6, 124, "lodger/pool.snaps")] : DataW Unit) = Rows.laid_lodger_pool_kinds := by kernel_rfl
  rw [e]
  simp only [Rows.poolToldRow, List.mem_cons, true_or, or_true]
theorem PoolTold_mem1 : ("lodger/ask.single", (boolsD [false, false, true, true, false, true] : DataW Unit)) ∈ Rows.poolToldRow.laid := by
  have e : (boolsD [false, false, true, true, false, true] : DataW Unit) = Rows.laid_lodger_ask_single := by kernel_rfl
  rw [e]
  simp only [Rows.poolToldRow, List.mem_cons, true_or, or_true]
attribute [local irreducible] lodgerlaw21_PoolTold
theorem PoolTold_pure : ∀ cs, ArgsOK E sp_lodgerlaw21_PoolTold.args cs → ∃ r, sp_lodgerlaw21_PoolTold.run cs = some r ∧ sp_lodgerlaw21_PoolTold.enc r = [⟨.bool, true⟩] := fun cs h => by
  obtain ⟨x0, x1, rfl, h0, h1⟩ := args2 h
  have e := run2_eq (R := Bool) (a := .st 4) (b := .int .u8) lodgerlaw21_PoolTold x0 x1
  exact ⟨true, e.trans (pure_PoolTold x0 x1 h0 h1), rfl⟩
theorem PoolTold_glob (W : World) (h : laidMetH Tryd.prog Rows.poolToldRow.laid W) : GlobOK C_lodgerlaw21_PoolTold (sig W) W := globOK_of (l := gtab) rfl fun p hp => by
  rw [MakeChecks.laidMetH_plain _ _ _ (by kernel_rfl)] at h
  simp only [gtab, List.mem_cons, List.not_mem_nil, or_false] at hp
  rcases hp with rfl | rfl
  · exact globAt_kinds (l := Rows.poolToldRow.laid) (n := "lodger/pool.kinds") (es := [(1, 121, "lodger/pool.grants"), (2, 122, "lodger/pool.exacts"), (3, 123, "lodger/pool.releases"), (4, 123, "lodger/pool.releases"), (5, 122, "lodger/pool.exacts"), (6, 124, "lodger/pool.snaps")]) h PoolTold_mem0 (by kernel_rfl) (t := 85) (by kernel_rfl) (k := 3) (e := 73) (by kernel_rfl) (by kernel_rfl) (by kernel_rfl) (by kernel_rfl)
  · exact globAt_bools (l := Rows.poolToldRow.laid) (n := "lodger/ask.single") (zs := [false, false, true, true, false, true]) h PoolTold_mem1 (by kernel_rfl) (t := 101) (by kernel_rfl) (e := 4) (m := 6) (by kernel_rfl) (by kernel_rfl) (by kernel_rfl) (by kernel_rfl) (by decide)
theorem PoolTold_lifted (os : Os) (started : os.Started) (H : Type) (enc : TypeId × Value → H) :
    ReturnsInHanded {} Tryd.checked os 6 .any (fun w args => (Rows.poolToldSpec.pre enc Tryd.prog Tryd.f6 [] false w args ∧ laidMetH Tryd.prog Rows.poolToldRow.laid w) ∧ sizedMet enc Tryd.prog Tryd.f6 (OpenSpec.ofChange Rows.poolToldSpec) false w args)
      (Rows.poolToldSpec.post enc Tryd.prog Tryd.f6 false true false false) :=
  law_row_laid (Kd := Tryd.checked) (C := C_lodgerlaw21_PoolTold) rfl (f := 6) (fn := Tryd.f6) Tryd.func6 (by kernel_rfl) (by kernel_rfl) (s := Rows.poolToldSpec) rfl (ps := [43, 5]) rfl
    (fun H ds h => by match ds, h with | [d0, d1], _ => rfl) (rt := 4) rfl (by kernel_rfl) (by kernel_rfl) (by kernel_rfl) ok_lodgerlaw21_PoolTold rfl (tabOK_of (l := tab) rfl tabF) envFill envOK
    (X := fun w => laidMetH Tryd.prog Rows.poolToldRow.laid w) (fun _ _ hh h => h.of_heap hh) PoolTold_glob PoolTold_pure os started
    (ChangeSpec.witness_shaped (enc := enc) (C := Tryd.checked) (os := os) (X := fun w _ => laidMetH Tryd.prog Rows.poolToldRow.laid w) false (World.doorLaid Tryd.prog 600 os) #[.agg #[.int .i64 0, .int .u32 0, .slice none 0 0, .int .i64 0, .int .u32 0, .bool false, .slice none 0 0, .slice none 0 0, .int .i64 0, .int .i64 0, .int .i64 0, .int .i64 0, .int .i64 0, .int .u64 0, .bool false, .slice none 0 0, .int .i64 0, .int .i64 0, .int .i64 0, .int .i64 0], .int .u8 0] 8 rfl (World.shaped_of_RefB (by kernel_rfl) (by kernel_rfl)) (by kernel_rfl) (by kernel_rfl) (by kernel_rfl)
      (by rw [MakeChecks.laidMetH_plain _ _ _ (by kernel_rfl)]; exact laidMet_of_run' 8 (by kernel_rfl) (by kernel_rfl)))
theorem PoolTold_row : Rows.PoolToldSaid :=
  OpenClaim.holds_of_wide 6 Tryd.f6 rfl rfl rfl rfl rfl rfl rfl ⟨rfl, rfl, rfl, rfl, rfl⟩ rfl rfl rfl rfl rfl (by kernel_rfl) Tryd.func6 (by kernel_rfl)
    (of_decide_eq_true (by kernel_rfl)) (by unfold Func.isWrapper; first | (rw [if_pos (by decide +kernel)]; kernel_rfl) | (rw [if_neg (by decide +kernel)]; exact ⟨rfl, rfl⟩))
    (fun os started H enc _ => PoolTold_lifted os started H enc)
theorem PoolTold_holds : Rows.PoolToldCardSaid :=
  Claim7.holds_tied_plain_at .later [] [.data, .mapped] true (true, "db3ceb2890fb9e92b4785099fcc56a5c33ec1c8a3068167c2052ed145ca4761f") false
    PoolTold_row (fun _ h => by cases h) (by kernel_rfl) (fun _ h => by cases h) poolTold_row_tie rfl ⟨rfl, rfl⟩ (by kernel_rfl) rfl
    (fun f fn hf hfn => by
      obtain rfl : f = 6 := Option.some.inj ((show Tryd.prog.funcNamed "lodger/lodgerlaw21.PoolTold" = some 6 by kernel_rfl).symm.trans hf) |>.symm
      obtain rfl : fn = Tryd.f6 := (Option.some.inj (Tryd.func6.symm.trans hfn)).symm
      exact ⟨by kernel_rfl, fun j t ht => by
        rw [show Tryd.f6.params = #[43, 5] from rfl] at ht
        have hm : t ∈ [43, 5] := by simpa using Array.mem_of_getElem? ht
        have hall : ([43, 5].all fun u => !Tryd.prog.wantsStandIn u) = true := by kernel_rfl
        exact (show Tryd.prog.wantsStandIn t = false by simpa using List.all_eq_true.1 hall t hm)⟩)
    (by kernel_rfl)
end Go.Proofs.YtonphdpgepnenaaDoor
