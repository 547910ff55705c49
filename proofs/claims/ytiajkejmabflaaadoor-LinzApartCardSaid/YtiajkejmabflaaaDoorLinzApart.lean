/- LinzApart of lodger's layer: for every input the law returns true, and each argument reads afterwards as it read before; the listed variable holds what the program's text lays. -/
import Derived.Test.YtiajkejmabflaaaDoorLaL
import Derived.Test.YtiajkejmabflaaaDoorLaM
import Derived.Test.YtiajkejmabflaaaDoorRows
import Derived.Test.YtiajkejmabflaaaDoorTie
import Derived.Test.YtiajkejmabflaaaDoorCards
import Derived.Lay
import Derived.MakeChecks
import Derived.LaidSub
import Derived.LaidHandle
import Derived.Test.YtiajkejmabflaaaDoorLaE
import Derived.WalkKit
import Derived.ProofKit
import Derived.Stop.Joined
import Derived.SevenTiedAt
namespace Go.Proofs.YtiajkejmabflaaaDoor
set_option linter.all false
open Go Go.Lv Go.Lv.Ld Go.Proofs Go.RowKit Go.ChangeShapes Go.WideShapes Go.ChangeAt
set_option maxRecDepth 100000
theorem LinzApart_isFn {P : Program} {e : TypeId} (h : (match P.underlying e with | some (.func _ _ _) => true | _ => false) = true) : ∃ ps rs va, P.underlying e = some (.func ps rs va) := by
  split at h
  · rename_i heq; exact ⟨_, _, _, heq⟩
  · cases h
theorem LinzApart_g0 {W : World} (h : funcsAt Tryd.prog W "lodger/spec.deeds" (.map [(.int .i64 1, .iface "func" (.lit (.string [108, 111, 100, 103, 101, 114, 47, 115, 112, 101, 99, 46, 108, 101, 97, 115, 116]))), (.int .i64 2, .iface "func" (.lit (.string [108, 111, 100, 103, 101, 114, 47, 115, 112, 101, 99, 46, 101, 120, 97, 99, 116]))), (.int .i64 3, .iface "func" (.lit (.string [108, 111, 100, 103, 101, 114, 47, 115, 112, 101, 99, 46, 114, 101, 108, 101, 97, 115, 101]))), (.int .i64 4, .iface "func" (.lit (.string [108, 111, 100, 103, 101, 114, 47, 115, 112, 101, 99, 46, 98, 97, 116, 99, 104]))), (.int .i64 5, .iface "func" (.lit (.string [108, 111, 100, 103, 101, 114, 47, 115, 112, 101, 99, 46, 113, 117, 101, 114, 121]))), (.int .i64 6, .iface "func" (.lit (.string [108, 111, 100, 103, 101, 114, 47, 115, 112, 101, 99, 46, 115, 110, 97, 112, 115, 104, 111, 116]))), (.int .i64 7, .iface "func" (.lit (.string [108, 111, 100, 103, 101, 114, 47, 115, 112, 101, 99, 46, 99, 108, 111, 115, 105, 110, 103])))])) : GlobAt E W 0 [.cmap [(1, .clo 85 [] []), (2, .clo 86 [] []), (3, .clo 87 [] []), (4, .clo 88 [] []), (5, .clo 89 [] []), (6, .clo 90 [] []), (7, .clo 91 [] [])]] := by
  obtain ⟨ps, rs, va, hfn⟩ := LinzApart_isFn (P := Tryd.prog) (e := 46) (by kernel_rfl)
  obtain ⟨g, t, cs, fuel, p, hg, ht, hv, hd⟩ := h
  obtain rfl := Option.some.inj ((show Tryd.prog.globalNamed "lodger/spec.deeds" = some 0 by kernel_rfl).symm.trans hg)
  obtain rfl := Option.some.inj ((show (Tryd.prog.globals[0]?).map (·.type) = some 82 by kernel_rfl).symm.trans ht)
  have hd' : DataW.trod (funcToken Tryd.prog) Tryd.prog W 0 (fun _ => true) true fuel 82 cs.toList = some (.map [(.int .i64 1, .held [108, 111, 100, 103, 101, 114, 47, 115, 112, 101, 99, 46, 108, 101, 97, 115, 116]), (.int .i64 2, .held [108, 111, 100, 103, 101, 114, 47, 115, 112, 101, 99, 46, 101, 120, 97, 99, 116]), (.int .i64 3, .held [108, 111, 100, 103, 101, 114, 47, 115, 112, 101, 99, 46, 114, 101, 108, 101, 97, 115, 101]), (.int .i64 4, .held [108, 111, 100, 103, 101, 114, 47, 115, 112, 101, 99, 46, 98, 97, 116, 99, 104]), (.int .i64 5, .held [108, 111, 100, 103, 101, 114, 47, 115, 112, 101, 99, 46, 113, 117, 101, 114, 121]), (.int .i64 6, .held [108, 111, 100, 103, 101, 114, 47, 115, 112, 101, 99, 46, 115, 110, 97, 112, 115, 104, 111, 116]), (.int .i64 7, .held [108, 111, 100, 103, 101, 114, 47, 115, 112, 101, 99, 46, 99, 108, 111, 115, 105, 110, 103])], p) := hd
  rcases WideElems.open_map (show Tryd.prog.underlying 82 = some (.map 3 46) by kernel_rfl) hd' with ⟨_, hx⟩ | ⟨b, es, clock, n, rfl, hcs, hb, _, F, hx⟩
  · cases hx
  simp only [Prod.mk.injEq, DataW.map.injEq] at hx
  have hcs1 : cs = #[.map (some b)] := Array.eq_one_of_toList hcs
  obtain ⟨t1, f1, hh⟩ := var_heap hg hv
  refine globAt_of hh (by rw [hcs1]; rfl) (by decide) fun j v x q1 q2 => ?_
  rw [hcs1] at q1
  match j, q1, q2 with
  | j + 1, q1, q2 => simp at q2
  | 0, q1, q2 =>
  cases q1
  cases q2
  refine cmap_laid hb (by kernel_rfl) F hx.1.symm (fun j p hp => ?_) (fun x hx => ?_)
  · match j, hp with
    | 0, hp => cases hp; exact ⟨_, List.mem_cons_self, fun v q h => clo_laid hfn (by kernel_rfl) v q h⟩
    | 1, hp => cases hp; exact ⟨_, (List.mem_cons_of_mem _ List.mem_cons_self), fun v q h => clo_laid hfn (by kernel_rfl) v q h⟩
    | 2, hp => cases hp; exact ⟨_, (List.mem_cons_of_mem _ (List.mem_cons_of_mem _ List.mem_cons_self)), fun v q h => clo_laid hfn (by kernel_rfl) v q h⟩
    | 3, hp => cases hp; exact ⟨_, (List.mem_cons_of_mem _ (List.mem_cons_of_mem _ (List.mem_cons_of_mem _ List.mem_cons_self))), fun v q h => clo_laid hfn (by kernel_rfl) v q h⟩
    | 4, hp => cases hp; exact ⟨_, (List.mem_cons_of_mem _ (List.mem_cons_of_mem _ (List.mem_cons_of_mem _ (List.mem_cons_of_mem _ List.mem_cons_self)))), fun v q h => clo_laid hfn (by kernel_rfl) v q h⟩
    | 5, hp => cases hp; exact ⟨_, (List.mem_cons_of_mem _ (List.mem_cons_of_mem _ (List.mem_cons_of_mem _ (List.mem_cons_of_mem _ (List.mem_cons_of_mem _ List.mem_cons_self))))), fun v q h => clo_laid hfn (by kernel_rfl) v q h⟩
    | 6, hp => cases hp; exact ⟨_, (List.mem_cons_of_mem _ (List.mem_cons_of_mem _ (List.mem_cons_of_mem _ (List.mem_cons_of_mem _ (List.mem_cons_of_mem _ (List.mem_cons_of_mem _ List.mem_cons_self)))))), fun v q h => clo_laid hfn (by kernel_rfl) v q h⟩
    | (k + 7), hp => simp at hp
  · simp only [List.mem_cons, List.not_mem_nil, or_false] at hx
    rcases hx with rfl | rfl | rfl | rfl | rfl | rfl | rfl
    · exact ⟨0, _, rfl, rfl⟩
    · exact ⟨1, _, rfl, rfl⟩
    · exact ⟨2, _, rfl, rfl⟩
    · exact ⟨3, _, rfl, rfl⟩
    · exact ⟨4, _, rfl, rfl⟩
    · exact ⟨5, _, rfl, rfl⟩
    · exact ⟨6, _, rfl, rfl⟩
theorem LinzApart_mem1 : ("lodger/ask.single", (boolsD [false, false, true, true, false, true] : DataW Unit)) ∈ Rows.linzApartRow.laid := by
  have e : (boolsD [false, false, true, true, false, true] : DataW Unit) = Rows.laid_lodger_ask_single := by kernel_rfl
  rw [e]
  simp only [Rows.linzApartRow, List.mem_cons, true_or, or_true]
attribute [local irreducible] lodgerlaw25_LinzApart
theorem LinzApart_pure : ∀ cs, ArgsOK E sp_lodgerlaw25_LinzApart.args cs → ∃ r, sp_lodgerlaw25_LinzApart.run cs = some r ∧ sp_lodgerlaw25_LinzApart.enc r = [⟨.bool, true⟩] := fun cs h => by
  obtain ⟨x0, x1, x2, x3, rfl, h0, h1, h2, h3⟩ := args4 h
  have e := run4_eq (R := Bool) (a := .st 1) (b := .slice i64) (c := .slice (.st 5)) (d := .int .u8) lodgerlaw25_LinzApart x0 x1 x2 x3
  exact ⟨true, e.trans (pure_LinzApart x0 x1 x2 x3 h0 h1 h2 h3), rfl⟩
theorem LinzApart_glob (W : World) (h : laidMetH Tryd.prog Rows.linzApartRow.laid W) : GlobOK C_lodgerlaw25_LinzApart (sig W) W := globOK_of (l := gtab) rfl fun p hp => by
  simp only [gtab, List.mem_cons, List.not_mem_nil, or_false] at hp
  rcases hp with rfl | rfl
  · exact LinzApart_g0 (h.funcs (by simp [Rows.linzApartRow, Rows.laid_lodger_spec_deeds]))
  · exact globAt_bools (l := List.filter (fun x => x.2.handleName?.isNone) Rows.linzApartRow.laid) (n := "lodger/ask.single") (zs := [false, false, true, true, false, true]) (laidMetH_iff.1 h).1 (List.mem_filter.2 ⟨LinzApart_mem1, by kernel_rfl⟩) (by kernel_rfl) (t := 89) (by kernel_rfl) (e := 4) (m := 6) (by kernel_rfl) (by kernel_rfl) (by kernel_rfl) (by kernel_rfl) (by decide)
theorem LinzApart_door (os : Os) (args : Array Value) : laidMetH Tryd.prog Rows.linzApartRow.laid ((World.doorLaid Tryd.prog 600 os).forCall (fun _ _ => 0) ⟨#[], args, []⟩).memory :=
  laidMetH_of_parts3 (fuel := 8) (laidMet_of_run' 8 (by kernel_rfl) (by kernel_rfl)) (by kernel_rfl) (by kernel_rfl)
theorem LinzApart_lifted (os : Os) (started : os.Started) (H : Type) (enc : TypeId × Value → H) :
    ReturnsInHanded {} Tryd.checked os 5 .any (fun w args => (Rows.linzApartSpec.pre enc Tryd.prog Tryd.f5 [] false w args ∧ laidMetH Tryd.prog Rows.linzApartRow.laid w) ∧ sizedMet enc Tryd.prog Tryd.f5 (OpenSpec.ofChange Rows.linzApartSpec) false w args)
      (Rows.linzApartSpec.post enc Tryd.prog Tryd.f5 false true false false) :=
  law_row_laid (Kd := Tryd.checked) (C := C_lodgerlaw25_LinzApart) rfl (f := 5) (fn := Tryd.f5) Tryd.func5 (by kernel_rfl) (by kernel_rfl) (s := Rows.linzApartSpec) rfl (ps := [27, 25, 28, 5]) rfl
    (fun H ds h => by match ds, h with | [d0, d1, d2, d3], _ => rfl) (rt := 4) rfl (by kernel_rfl) (by kernel_rfl) (by kernel_rfl) ok_lodgerlaw25_LinzApart rfl (tabOK_of (l := tab) rfl tabF) envFill envOK
    (X := fun w => laidMetH Tryd.prog Rows.linzApartRow.laid w) (fun _ _ hh h => h.of_heap hh) LinzApart_glob LinzApart_pure os started
    (ChangeSpec.witness_shaped (enc := enc) (C := Tryd.checked) (os := os) (X := fun w _ => laidMetH Tryd.prog Rows.linzApartRow.laid w) false (World.doorLaid Tryd.prog 600 os) #[.agg #[.int .u32 0, .int .i64 0, .slice none 0 0, .int .i64 0, .int .i64 0, .int .i64 0, .int .i64 0], .slice none 0 0, .slice none 0 0, .int .u8 0] 8 rfl (World.shaped_of_RefB (by kernel_rfl) (by kernel_rfl)) (by kernel_rfl) (by kernel_rfl) (by kernel_rfl) (LinzApart_door os _))
theorem LinzApart_row : Rows.LinzApartSaid :=
  OpenClaim.holds_of_wide 5 Tryd.f5 rfl rfl rfl rfl rfl rfl rfl ⟨rfl, rfl, rfl, rfl, rfl⟩ rfl rfl rfl rfl rfl (by kernel_rfl) Tryd.func5 (by kernel_rfl)
    (of_decide_eq_true (by kernel_rfl)) (by unfold Func.isWrapper; first | (rw [if_pos (by decide +kernel)]; kernel_rfl) | (rw [if_neg (by decide +kernel)]; exact ⟨rfl, rfl⟩))
    (fun os started H enc _ => LinzApart_lifted os started H enc)
theorem LinzApart_holds : Rows.LinzApartCardSaid :=
  Claim7.holds_tied_plain_at .later [] [.data, .funcs] true (true, "a2ddf36cf0e14e472ee578affc42abcbeda0362807ec1942cf8550a32bc4e8b4") false
    LinzApart_row (fun _ h => by cases h) (by kernel_rfl) (fun _ h => by cases h) linzApart_row_tie rfl ⟨rfl, rfl⟩ (by kernel_rfl) rfl
    (fun f fn hf hfn => by
      obtain rfl : f = 5 := Option.some.inj ((show Tryd.prog.funcNamed "lodger/lodgerlaw25.LinzApart" = some 5 by kernel_rfl).symm.trans hf) |>.symm
      obtain rfl : fn = Tryd.f5 := (Option.some.inj (Tryd.func5.symm.trans hfn)).symm
      exact ⟨by kernel_rfl, fun j t ht => by
        rw [show Tryd.f5.params = #[27, 25, 28, 5] from rfl] at ht
        have hm : t ∈ [27, 25, 28, 5] := by simpa using Array.mem_of_getElem? ht
        have hall : ([27, 25, 28, 5].all fun u => !Tryd.prog.wantsStandIn u) = true := by kernel_rfl
        exact (show Tryd.prog.wantsStandIn t = false by simpa using List.all_eq_true.1 hall t hm)⟩)
    (by kernel_rfl)
end Go.Proofs.YtiajkejmabflaaaDoor
