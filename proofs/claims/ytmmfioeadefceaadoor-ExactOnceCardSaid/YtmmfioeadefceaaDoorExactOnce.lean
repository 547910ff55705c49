/- ExactOnce of lodger's layer: for every input the law returns true, and each argument reads afterwards as it read before; the listed variable holds what the program's text lays. -/
import Derived.Test.YtmmfioeadefceaaDoorLvO2ExactOnce
import Derived.Test.YtmmfioeadefceaaDoorLvX7
import Derived.Test.YtmmfioeadefceaaDoorRows
import Derived.Test.YtmmfioeadefceaaDoorTie
import Derived.Test.YtmmfioeadefceaaDoorCards
import Derived.WalkKit
import Derived.ProofKit
import Derived.Stop.Joined
import Derived.SevenTiedAt
namespace Go.Proofs.YtmmfioeadefceaaDoor
set_option linter.all false
open Go Go.Lv Go.Lv.Ld Go.Proofs Go.RowKit Go.ChangeShapes Go.WideShapes Go.ChangeAt
set_option maxRecDepth 100000
theorem ExactOnce_isFn {P : Program} {e : TypeId} (h : (match P.underlying e with | some (.func _ _ _) => true | _ => false) = true) : ∃ ps rs va, P.underlying e = some (.func ps rs va) := by
  split at h
  · rename_i heq; exact ⟨_, _, _, heq⟩
  · cases h
theorem ExactOnce_g0 {W : World} (h : funcsAt Tryd.prog W "lodger/claim.steps" (.map [(.int .i64 2, .iface "func" (.lit (.string [108, 111, 100, 103, 101, 114, 47, 99, 108, 97, 105, 109, 46, 108, 111, 111, 107]))), (.int .i64 3, .iface "func" (.lit (.string [108, 111, 100, 103, 101, 114, 47, 99, 108, 97, 105, 109, 46, 99, 108, 97, 105, 109])))])) : RepV E (gh0 (sig W)) W (.pointer (some ⟨0, 0, none⟩)) (.ro [.cmap [(2, .clo 114 [] []), (3, .clo 115 [] [])]]) := by
  obtain ⟨ps, rs, va, hfn⟩ := ExactOnce_isFn (P := Tryd.prog) (e := 46) (by kernel_rfl)
  obtain ⟨g, t, cs, fuel, p, hg, ht, hv, hd⟩ := h
  obtain rfl := Option.some.inj ((show Tryd.prog.globalNamed "lodger/claim.steps" = some 0 by kernel_rfl).symm.trans hg)
  obtain rfl := Option.some.inj ((show (Tryd.prog.globals[0]?).map (·.type) = some 72 by kernel_rfl).symm.trans ht)
  have hd' : DataW.trod (funcToken Tryd.prog) Tryd.prog W 0 (fun _ => true) true fuel 72 cs.toList = some (.map [(.int .i64 2, .held [108, 111, 100, 103, 101, 114, 47, 99, 108, 97, 105, 109, 46, 108, 111, 111, 107]), (.int .i64 3, .held [108, 111, 100, 103, 101, 114, 47, 99, 108, 97, 105, 109, 46, 99, 108, 97, 105, 109])], p) := hd
  rcases WideElems.open_map (show Tryd.prog.underlying 72 = some (.map 3 46) by kernel_rfl) hd' with ⟨_, hx⟩ | ⟨b, es, clock, n, rfl, hcs, hb, _, F, hx⟩
  · cases hx
  simp only [Prod.mk.injEq, DataW.map.injEq] at hx
  have hcell : W.cell? ⟨0, 0, none⟩ = some (.map (some b)) := by
    have := World.var?_cell hg hv 0
    rw [Array.eq_one_of_toList hcs] at this
    simpa using this
  refine ro_one hcell (cmap_laid hb (by kernel_rfl) F hx.1.symm fun j p hp => ?_)
  match j, hp with
  | 0, hp => cases hp; exact ⟨_, List.mem_cons_self, fun v q h => clo_laid hfn (by kernel_rfl) v q h⟩
  | 1, hp => cases hp; exact ⟨_, (List.mem_cons_of_mem _ List.mem_cons_self), fun v q h => clo_laid hfn (by kernel_rfl) v q h⟩
  | (k + 2), hp => simp at hp
attribute [local irreducible] lodgerlaw18_ExactOnce
theorem ExactOnce_pure : ∀ cs, ArgsOK E sp_lodgerlaw18_ExactOnce.args cs → ∃ r, sp_lodgerlaw18_ExactOnce.run cs = some r ∧ sp_lodgerlaw18_ExactOnce.enc r = [⟨.bool, true⟩] := fun cs h => by
  obtain ⟨x0, x1, x2, x3, rfl, h0, h1, h2, h3⟩ := args4 h
  have e := run4_eq (R := Bool) (a := .st 1) (b := .st 2) (c := .slice u32) (d := .slice u32) lodgerlaw18_ExactOnce x0 x1 x2 x3
  exact ⟨true, e.trans (pure_ExactOnce x0 x1 x2 x3 h0 h1 h2 h3), rfl⟩
theorem ExactOnce_glob (W : World) (h : laidMetH Tryd.prog Rows.exactOnceRow.laid W) : GlobOK C_lodgerlaw18_ExactOnce (sig W) W := globOK_of (l := gtab) rfl fun p hp => by
  simp only [gtab, List.mem_cons, List.not_mem_nil, or_false] at hp
  rcases hp with rfl
  exact ExactOnce_g0 (h.funcs (by simp [Rows.exactOnceRow, Rows.laid_lodger_claim_steps]))
theorem ExactOnce_door (os : Os) (args : Array Value) : laidMetH Tryd.prog Rows.exactOnceRow.laid ((World.doorLaid Tryd.prog 600 os).forCall (fun _ _ => 0) ⟨#[], args, []⟩).memory :=
  laidMetH_of_parts3 (fuel := 8) (laidMet_of_run' 8 (by kernel_rfl) (by kernel_rfl)) (by kernel_rfl) (by kernel_rfl)
theorem ExactOnce_lifted (os : Os) (started : os.Started) (H : Type) (enc : TypeId × Value → H) :
    ReturnsInHanded {} Tryd.checked os 7 .any (fun w args => (Rows.exactOnceSpec.pre enc Tryd.prog Tryd.f7 [] false w args ∧ laidMetH Tryd.prog Rows.exactOnceRow.laid w) ∧ sizedMet enc Tryd.prog Tryd.f7 (OpenSpec.ofChange Rows.exactOnceSpec) false w args)
      (Rows.exactOnceSpec.post enc Tryd.prog Tryd.f7 false true false false) :=
  law_row_laid (Kd := Tryd.checked) (C := C_lodgerlaw18_ExactOnce) rfl (f := 7) (fn := Tryd.f7) Tryd.func7 (by kernel_rfl) (by kernel_rfl) (s := Rows.exactOnceSpec) rfl (ps := [27, 35, 33, 33]) rfl
    (fun H ds h => by match ds, h with | [d0, d1, d2, d3], _ => rfl) (rt := 4) rfl (by kernel_rfl) (by kernel_rfl) (by kernel_rfl) ok_lodgerlaw18_ExactOnce rfl (tabOK_of (l := tab) rfl tabF) envFill envOK
    (X := fun w => laidMetH Tryd.prog Rows.exactOnceRow.laid w) (fun _ _ hh h => h.of_heap hh) ExactOnce_glob ExactOnce_pure os started
    (ChangeSpec.witness_shaped (enc := enc) (C := Tryd.checked) (os := os) (X := fun w _ => laidMetH Tryd.prog Rows.exactOnceRow.laid w) false (World.doorLaid Tryd.prog 600 os) #[.agg #[.int .u32 0, .int .i64 0, .slice none 0 0, .int .i64 0, .int .i64 0, .int .i64 0, .int .i64 0], .agg #[.int .i64 0, .int .u32 0, .slice none 0 0], .slice none 0 0, .slice none 0 0] 8 rfl (World.shaped_of_RefB (by kernel_rfl) (by kernel_rfl)) (by kernel_rfl) (by kernel_rfl) (by kernel_rfl) (ExactOnce_door os _))
theorem ExactOnce_row : Rows.ExactOnceSaid :=
  OpenClaim.holds_of_wide 7 Tryd.f7 rfl rfl rfl rfl rfl rfl rfl ⟨rfl, rfl, rfl, rfl, rfl⟩ rfl rfl rfl rfl rfl (by kernel_rfl) Tryd.func7 (by kernel_rfl)
    (of_decide_eq_true (by kernel_rfl)) (by unfold Func.isWrapper; first | (rw [if_pos (by decide +kernel)]; kernel_rfl) | (rw [if_neg (by decide +kernel)]; exact ⟨rfl, rfl⟩))
    (fun os started H enc _ => ExactOnce_lifted os started H enc)
theorem ExactOnce_holds : Rows.ExactOnceCardSaid :=
  Claim7.holds_tied_plain_at .later [] [.funcs] true (true, "2a8b547b444b6eed4a412d8d8cd6e5b59638313391a435db7eafefc10dba5b5b") false
    ExactOnce_row (fun _ h => by cases h) (by kernel_rfl) (fun _ h => by cases h) exactOnce_row_tie rfl ⟨rfl, rfl⟩ (by kernel_rfl) rfl
    (fun f fn hf hfn => by
      obtain rfl : f = 7 := Option.some.inj ((show Tryd.prog.funcNamed "lodger/lodgerlaw18.ExactOnce" = some 7 by kernel_rfl).symm.trans hf) |>.symm
      obtain rfl : fn = Tryd.f7 := (Option.some.inj (Tryd.func7.symm.trans hfn)).symm
      exact ⟨by kernel_rfl, fun j t ht => by
        rw [show Tryd.f7.params = #[27, 35, 33, 33] from rfl] at ht
        have hm : t ∈ [27, 35, 33, 33] := by simpa using Array.mem_of_getElem? ht
        have hall : ([27, 35, 33, 33].all fun u => !Tryd.prog.wantsStandIn u) = true := by kernel_rfl
        exact (show Tryd.prog.wantsStandIn t = false by simpa using List.all_eq_true.1 hall t hm)⟩)
    (by kernel_rfl)
end Go.Proofs.YtmmfioeadefceaaDoor
