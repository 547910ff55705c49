import Derived.Test.YtmmfioeadefceaaDoorLvX2
namespace Go.Lv.Ld
set_option linter.all false
noncomputable section
open Go Go.Lv Go.IntWalk
theorem EO.of {c : Conf} {a : Ask} {o o' : Oq} (h : EO c a o) (e1 : o'.ask = o.ask) (e2 : o'.leaf = o.leaf) (e3 : o'.bit = o.bit) (e4 : o'.item = o.item) (e5 : o'.seen = o.seen) (e6 : o'.answer.addrs = o.answer.addrs) (e7 : o'.answer.errs = o.answer.errs)
    (a0 : 0 ≤ o'.at_) (a1 : o'.at_ ≤ 1) (w : U64 o'.word) (p : o'.phase = 0 ∨ o'.phase = 3 ∨ o'.phase = 4 ∨ o'.phase = 5 ∨ o'.phase = 8) : EO c a o' :=
  ⟨e1.trans h.ask, h.kind, h.short, h.u, by rw [e2]; exact h.leaf0, by rw [e2]; exact h.leaf1, by rw [e3]; exact h.bit0, by rw [e3]; exact h.bit1, by rw [e2, e3]; exact h.place, e4.trans h.item, a0, a1, w, e5.trans h.seen, e6.trans h.ad, e7.trans h.er, p⟩
theorem u0 : U64 0 := by unfold U64; omega
theorem EO.k4 {c : Conf} {a : Ask} {o : Oq} (h : EO c a o) : o.ask.kind ≠ 4 := by
  rw [h.ask]; rcases h.kind with k | k <;> omega
theorem EO.k1 {c : Conf} {a : Ask} {o : Oq} (h : EO c a o) : o.ask.kind ≠ 1 := by
  rw [h.ask]; rcases h.kind with k | k <;> omega
theorem clai_bad {c : Conf} {l : List Int} {o : Oq} (h : gt l o.leaf ≠ o.word) (k : o.ask.kind ≠ 1) : clai c l o = (l, { o with phase := 8, word := 0 }, false) := by unfold clai; rw [if_neg h, if_neg k]
theorem EO.goes {c : Conf} {a : Ask} {o : Oq} (h : EO c a o) : EO c a (goes c o) := by
  rw [goes_no h.k4]
  exact h.of rfl rfl rfl rfl rfl rfl rfl (Int.le_refl _) (show (0 : Int) ≤ 1 by decide) u0 (.inl rfl)
theorem EO.don {c : Conf} {a : Ask} {o : Oq} (h : EO c a o) : EO c a (don c o) := by
  unfold Ld.don
  split
  · exact h.goes
  · exact h.of rfl rfl rfl rfl rfl rfl rfl (show (0 : Int) ≤ 1 by decide) (Int.le_refl _) h.word (.inr (.inr (.inl rfl)))
section
variable {c : Conf} {l : List Int} {a : Ask} {o : Oq} (fit : Fit c l) (ub : U32 c.block.base) (eo : EO c a o)
include fit eo
theorem hstep_keep : EO c a (hstep c l o).2 ∧ Fit c (hstep c l o).1 := by
  obtain ⟨w1, w2, w3, w4⟩ := wh_b fit eo.leaf0 eo.leaf1
  have hu := fit.u _ (gt_mem w1 w2)
  have e1 : ∀ w, U64 w → EO c a { o with word := w } := fun w hw => eo.of rfl rfl rfl rfl rfl rfl rfl eo.at0 eo.at1 hw eo.ph
  unfold hstep
  split
  · split
    · exact ⟨(e1 _ hu).don, fit⟩
    · exact ⟨eo.of rfl rfl rfl rfl rfl rfl rfl eo.at0 eo.at1 hu (.inr (.inr (.inr (.inl rfl)))), fit⟩
  · have tu := to_u eo.word w3 w4 o.full
    refine ⟨(e1 _ tu).don, ?_⟩
    simp only
    split
    · exact fit.pt _ tu
    · exact fit
theorem clai_keep : EO c a (clai c l o).2.1 ∧ Fit c (clai c l o).1 := by
  by_cases q : gt l o.leaf = o.word
  · have hf2 := fit.pt o.leaf (cw_u o.word o.bit)
    cases hf : ful (cw o.word o.bit)
    · rw [clai_not q hf]
      have : EO c a (got c o) := eo.of rfl rfl rfl rfl rfl rfl rfl eo.at0 eo.at1 u0 eo.ph
      exact ⟨this.goes, hf2⟩
    · rw [clai_ful q hf]
      exact ⟨eo.of rfl rfl rfl rfl rfl rfl rfl (Int.le_refl _) (show (0 : Int) ≤ 1 by decide) u0 (.inr (.inr (.inl rfl))), hf2⟩
  · rw [clai_bad q eo.k1]
    exact ⟨eo.of rfl rfl rfl rfl rfl rfl rfl eo.at0 eo.at1 u0 (.inr (.inr (.inr (.inr rfl)))), fit⟩
theorem X_keep : EO c a (xstep c l o).2.1 ∧ Fit c (xstep c l o).1 := by
  obtain ⟨l1, l2, l3⟩ := fit.leaf eo.leaf0 eo.leaf1
  unfold xstep
  split
  · exact ⟨eo, fit⟩
  split
  · split
    · exact ⟨eo.of rfl rfl rfl rfl rfl rfl rfl eo.at0 eo.at1 eo.word (.inl rfl), fit⟩
    split
    · exact ⟨eo.of rfl rfl rfl rfl rfl rfl rfl eo.at0 eo.at1 eo.word (.inl rfl), fit⟩
    · exact ⟨eo.of rfl rfl rfl rfl rfl rfl rfl eo.at0 eo.at1 l3 (.inr (.inl rfl)), fit⟩
  split
  · exact clai_keep fit eo
  · exact hstep_keep fit eo
end
theorem EO.same {c : Conf} {a : Ask} {o : Oq} (h : EO c a o) : lodgerref08_Same o o = some true :=
  Same_refl (by rw [h.ask]; have := h.short; omega) (by rw [h.ad]; simp) (by rw [h.er]; simp) (by rw [h.seen]; simp)
/-- What somebody else does. -/
theorem Disturb_eq {c : Conf} {l : List Int} {d : Int} (fit : Fit c l) (hd : U32 d) : ∃ m, lodgerref17_Disturb c l d = some m ∧ Fit c m := by
  have hm := many_b fit.ok.blk
  have hL := leaves_b hm.1 hm.2
  have hT := tops_b hm.1 hm.2
  have hlen := fit.len
  unfold cellsN at hlen
  have hl : l.length ≤ maxList := fit.small
  unfold U32 at hd
  unfold lodgerref17_Disturb
  have e1 : d.tmod 8 = d % 8 := Int.tmod_eq_emod_of_nonneg hd.1
  have e2 : IntKind.i64.wrap (IntKind.u32.wrap (d.tdiv 8)) = d / 8 := by rw [u32_quo d 8 (by omega), i64_in _ (by omega)]
  have e3 : (d / 8).tmod (many c.block) = d / 8 % many c.block := Int.tmod_eq_emod_of_nonneg (by omega)
  have o0 : 0 ≤ d / 8 % many c.block := Int.emod_nonneg _ (by omega)
  have o1 : d / 8 % many c.block < many c.block := Int.emod_lt_of_pos _ (by omega)
  rw [rMany_eq fit.ok.blk, Option.bind_some]
  simp only [e1, e2, e3]
  generalize d / 8 % many c.block = o at *
  have e4 : IntKind.i64.wrap (o.tdiv 32) = o / 32 := i64_quo o 32 (by omega)
  have e5 : o.tmod 32 = o % 32 := Int.tmod_eq_emod_of_nonneg o0
  have e6 : IntKind.i64.wrap ((l.length : Int) - leaves (many c.block)) = tops (many c.block) + 1 := by rw [i64_in _ (by omega)]; omega
  simp only [e4, e5]
  obtain ⟨l1, l2, l3⟩ := fit.leaf (i := o / 32) (by omega) (by omega)
  have b0 : 0 ≤ o % 32 := by omega
  have b1 : o % 32 < 64 := by omega
  have hz : (many c.block == 0) = false := beq_eq_false_iff_ne.2 (by omega)
  have rest : ∃ m, (bif (d % 8 == 4) then ((lodgerref06_Leaves (many c.block)).bind fun r9 => (bif ((IntKind.wrap .i64 ((List.length l : Int) - r9)) == 0) then none else ((lodgerref02_Set l (IntKind.wrap .i64 (r9 + (Int.tmod (d / 8) (IntKind.wrap .i64 ((List.length l : Int) - r9))))) (IntKind.wrap .u64 ((IntKind.wrap .u64 ((IntKind.wrap .u64 d) * 2654435761)) * 1099511628211))).bind fun r10 => some r10))) else some l) = some m ∧ Fit c m := by
    by_cases q : d % 8 = 4
    · have hw : U64 (IntKind.u64.wrap (IntKind.u64.wrap (IntKind.u64.wrap d * 2654435761) * 1099511628211)) := by
        rw [IntKind.wrap_u64]
        generalize IntKind.u64.wrap (IntKind.u64.wrap d * 2654435761) * 1099511628211 = z
        unfold U64; omega
      refine ⟨_, ?_, fit.pt (IntKind.i64.wrap (leaves (many c.block) + (d / 8).tmod (tops (many c.block) + 1))) hw⟩
      refine ct (beq_iff_eq.2 q) ?_
      refine bnd (rLeaves_eq hm.1 hm.2) ?_
      rw [e6]
      refine cf (beq_eq_false_iff_ne.2 (by omega)) ?_
      exact bnd (r2Set_eq hl) rfl
    · exact ⟨l, cf (beq_eq_false_iff_ne.2 q) rfl, fit⟩
  by_cases q : d % 8 < 4
  · cases hh : heldB c o
    · -- a bit is turned
      cases hb : hs (gt l (o / 32)) (o % 32)
      · have hcl : lodgerref07_Claim (gt l (o / 32)) (o % 32) = some (cw (gt l (o / 32)) (o % 32)) := by
          unfold lodgerref07_Claim
          refine bnd (rSet_eq l3 b0 b1) ?_
          rw [IntKind.wrap_u64]; rfl
        refine ⟨_, ?_, fit.pt (o / 32) (cw_u (gt l (o / 32)) (o % 32))⟩
        refine cf hz ?_
        refine ct (decide_eq_true q) ?_
        refine bnd ((rHeld_eq fit.ok.few o).trans (congrArg some hh)) ?_
        refine ct rfl ?_
        refine bnd (geti_eq (by omega) l1) ?_
        refine bnd ((rHas_eq l3 b0 b1).trans (congrArg some hb)) ?_
        refine cf rfl ?_
        refine bnd hcl ?_
        exact bnd (r2Set_eq hl) rfl
      · have hdr : ∃ v, lodgerref07_Drop (gt l (o / 32)) (o % 32) = some v ∧ U64 v := by
          unfold lodgerref07_Drop
          refine ⟨_, bnd (rClear_eq l3 b0 b1) rfl, ?_⟩
          rw [IntKind.wrap_u64]
          generalize cl (gt l (o / 32)) (o % 32) + 4294967296 = z
          unfold U64; omega
        obtain ⟨v, v1, v2⟩ := hdr
        refine ⟨_, ?_, fit.pt (o / 32) v2⟩
        refine cf hz ?_
        refine ct (decide_eq_true q) ?_
        refine bnd ((rHeld_eq fit.ok.few o).trans (congrArg some hh)) ?_
        refine ct rfl ?_
        refine bnd (geti_eq (by omega) l1) ?_
        refine bnd ((rHas_eq l3 b0 b1).trans (congrArg some hb)) ?_
        refine ct rfl ?_
        refine bnd v1 ?_
        exact bnd (r2Set_eq hl) rfl
    · obtain ⟨m, m1, m2⟩ := rest
      refine ⟨m, ?_, m2⟩
      refine cf hz ?_
      refine ct (decide_eq_true q) ?_
      refine bnd ((rHeld_eq fit.ok.few o).trans (congrArg some hh)) ?_
      exact cf rfl m1
  · obtain ⟨m, m1, m2⟩ := rest
    refine ⟨m, ?_, m2⟩
    refine cf hz ?_
    exact cf (decide_eq_false q) m1
/-- An operation that begins. -/
def bo (c : Conf) (a : Ask) : Oq := ⟨a, ⟨0, 0, false, [], []⟩, 8, 0, 0, (a.addr - c.block.base) / 32, (a.addr - c.block.base) % 32, 0, false, [], 0, 0, 0, 0⟩
theorem Begin_eq {c : Conf} {a : Ask} (ub : U32 c.block.base) (ha : U32 a.addr) (r : Right c a) : exact_Begin c a = some (bo c a) := by
  have hm := many_b r.ok.blk
  have hi := r.ins
  unfold ins at hi
  unfold exact_Begin
  refine bnd (Offset_eq r.ok.blk ub ha) ?_
  rw [if_pos r.ins]
  exact bnd (Leaf_eq (by omega) (by omega)) rfl
theorem rBegin_eq {c : Conf} {a : Ask} (ub : U32 c.block.base) (ha : U32 a.addr) (r : Right c a) : lodgerref18_Begin c a = some (bo c a) := by
  have hm := many_b r.ok.blk
  have hi := r.ins
  unfold ins at hi
  unfold lodgerref18_Begin
  refine bnd (rOffset_eq r.ok.blk ub ha) ?_
  rw [if_pos r.ins]
  rw [i64_quo (a.addr - c.block.base) 32 (by omega), Int.tmod_eq_emod_of_nonneg (show 0 ≤ a.addr - c.block.base by omega)]
  rfl
theorem bo_eo {c : Conf} {a : Ask} (wa : WAsk a) (r : Right c a) : EO c a (bo c a) := by
  have hm := many_b r.ok.blk
  have hL := leaves_b hm.1 hm.2
  have hi := r.ins
  unfold ins at hi
  have e1 : (bo c a).leaf = (a.addr - c.block.base) / 32 := rfl
  have e2 : (bo c a).bit = (a.addr - c.block.base) % 32 := rfl
  exact ⟨rfl, r.kind, r.short, wa.addrs.2, by rw [e1]; omega, by rw [e1]; omega, by rw [e2]; omega, by rw [e2]; omega, by rw [e1, e2]; omega, rfl, Int.le_refl _, (by decide : (0 : Int) ≤ 1), u0, rfl, rfl, rfl, .inr (.inr (.inr (.inr rfl)))⟩
theorem ES_l (c : Conf) (a : Ask) (ub : U32 c.block.base) (ds : List Int) (hd : ∀ x, x ∈ ds → U32 x) (few : ds.length ≤ 200) : ∀ (d n : Nat) (i : Int) (l : List Int) (o : Oq), d < n → 0 ≤ i → ((ds.length : Int) - i).toNat = d → i ≤ ds.length → Fit c l → EO c a o → lodgerlaw18_ExactSteps_l0 n ds l i c o o = some true := by
  intro d
  induction d with
  | zero =>
    intro n i l o hn h1 h2 h3 fit eo
    obtain ⟨m, rfl⟩ : ∃ m, n = m + 1 := ⟨n - 1, by omega⟩
    rw [su0_lodgerlaw18_ExactSteps]
    unfold lodgerlaw18_ExactSteps_s0
    exact cf (decide_eq_false (by omega)) rfl
  | succ d ih =>
    intro n i l o hn h1 h2 h3 fit eo
    obtain ⟨m, rfl⟩ : ∃ m, n = m + 1 := ⟨n - 1, by omega⟩
    have hi : i < (ds.length : Int) := by omega
    obtain ⟨l', d1, fit'⟩ := Disturb_eq fit (hd _ (gt_mem h1 hi))
    obtain ⟨k1, k2⟩ := X_keep fit' eo
    have e1 := X_eq fit' ub eo
    have e2 := rX_eq fit' ub eo
    generalize xstep c l' o = r at *
    rw [su0_lodgerlaw18_ExactSteps]
    unfold lodgerlaw18_ExactSteps_s0
    rw [i64_in (i + 1) (by omega)]
    refine ct (decide_eq_true hi) ?_
    refine bnd (geti_eq h1 hi) ?_
    refine bnd d1 ?_
    refine bnd e1 ?_
    refine bnd e2 ?_
    refine bnd (lodgerref02_Same_eq _ _ (by have := k2.small; omega)) ?_
    refine cf (by simp) ?_
    refine bnd k1.same ?_
    refine cf rfl ?_
    refine cf (by simp) ?_
    exact ih m (i + 1) _ _ (by omega) (by omega) (by omega) (by omega) k2 k1
theorem pure_ExactSteps (c : Conf) (a : Ask) (ds : List Int) (hc : WfV E (.st 1) c) (ha : WfV E (.st 2) a) (hd : WfV E (.slice u32) ds) : lodgerlaw18_ExactSteps c a ds = some true := by
  have wc := v_conf hc
  have wa := v_ask ha
  have wd := v_slice (k := .u32) hd
  obtain ⟨b, e, hb⟩ := right_eq wc wa
  unfold lodgerlaw18_ExactSteps lodgerlaw18_ExactSteps_n lodgerlaw18_ExactSteps_e
  refine bnd awake18 ?_
  refine cf rfl ?_
  refine bnd e ?_
  cases b
  · exact ct rfl (bnd awake18 rfl)
  have r := hb rfl
  refine cf rfl ?_
  by_cases q : (ds.length : Int) > 200
  · exact ct (decide_eq_true q) (bnd awake18 rfl)
  refine cf (decide_eq_false q) ?_
  refine bnd (Begin_eq wc.block.base wa.addr r) ?_
  refine bnd (rBegin_eq wc.block.base wa.addr r) ?_
  have eo := bo_eo wa r
  refine bnd eo.same ?_
  refine cf rfl ?_
  obtain ⟨l, w1, w2, _⟩ := wCells_eq r.ok (by have := r.few; omega)
  refine bnd w1 ?_
  exact ES_l c a wc.block.base ds wd.2 (by omega) ds.length big 0 l _ (big_lt (by omega)) (by omega) (by omega) (by omega) w2 eo
end
end Go.Lv.Ld
