import Derived.Test.YtmmfioeadefceaaLvP5
namespace Go.Lv.Ld
set_option linter.all false
noncomputable section
open Go Go.Lv Go.IntWalk
theorem awake08 : lodgerlaw08_awake = some true := by kernel_rfl
theorem rStep_eq {c : Conf} {l : List Int} {o : Oq} (hf : Fit c l) (hb : U32 c.block.base) (ha : ∀ x, x ∈ o.ask.addrs → U32 x) (hi : 0 ≤ o.item) (hi2 : o.item ≤ 1000000) (hw : U64 o.word) (h0 : 0 ≤ o.leaf) (h1 : o.leaf < leaves (many c.block)) (a0 : 0 ≤ o.at_) (a1 : o.at_ ≤ 1) : lodgerref08_Step c l o = some (hstep c l o) := by
  unfold lodgerref08_Step
  obtain ⟨w1, w2, w3, w4⟩ := wh_b hf h0 h1
  have hu := hf.u _ (gt_mem w1 w2)
  have hg := fun w f => rGoes_eq (c := c) (o := { o with word := w, full := f }) hf.ok.blk hb ha hi hi2
  have hl : l.length ≤ maxList := hf.small
  have hm := many_b hf.ok.blk
  have hL := leaves_b hm.1 hm.2
  rw [rMany_eq hf.ok.blk, Option.bind_some, rTop_eq hm.1 hm.2 h0 (by omega), Option.bind_some, rRoot_eq hm.1 hm.2 h0 (by omega)]
  by_cases a : o.at_ = 1
  · have e : wh c o = (leaves (many c.block) + tops (many c.block), o.leaf / 64) := if_pos a
    unfold hstep
    rw [e] at w1 w2 w3 w4 hu ⊢
    try simp only at w1 w2 w3 w4 hu
    have hd : ∀ w f p, don c { o with word := w, full := f, phase := p } = goes c { o with word := w, full := f, phase := p } := fun w f p => if_pos (Or.inl a)
    by_cases k : o.phase = 4
    · have hg' := fun w => hg w o.full
      have hd' := fun w => hd w o.full 4
      simp only [k] at hg' hd'
      simp only [a, k, geti_eq w1 w2, rHas_eq hu w3 w4, Option.bind_some, Option.bind_none, Option.bind_eq_bind, ↓Bool.cond_eq_ite, decide_eq_true_eq, beq_iff_eq, bne_iff_ne, ne_eq, Bool.not_eq_true', Bool.not_eq_true, Bool.not_eq_false', Bool.not_not, decide_eq_false_iff_not, reduceIte, not_true_eq_false, not_false_eq_true, Bool.false_eq_true, Bool.true_eq_false, reduceCtorEq]
      simp only [a] at hg' hd'
      by_cases q : hs (gt l (leaves (many c.block) + tops (many c.block))) (o.leaf / 64) = o.full
      · simp only [q, hg', hd', beq_self_eq_true, Option.bind_some, Option.bind_none, Option.bind_eq_bind, ↓Bool.cond_eq_ite, decide_eq_true_eq, beq_iff_eq, bne_iff_ne, ne_eq, Bool.not_eq_true', Bool.not_eq_true, Bool.not_eq_false', Bool.not_not, decide_eq_false_iff_not, reduceIte, not_true_eq_false, not_false_eq_true, Bool.false_eq_true, Bool.true_eq_false, reduceCtorEq]
      · simp only [q, beq_eq_false_iff_ne, Option.bind_some, Option.bind_none, Option.bind_eq_bind, ↓Bool.cond_eq_ite, decide_eq_true_eq, beq_iff_eq, bne_iff_ne, ne_eq, Bool.not_eq_true', Bool.not_eq_true, Bool.not_eq_false', Bool.not_not, decide_eq_false_iff_not, reduceIte, not_true_eq_false, not_false_eq_true, Bool.false_eq_true, Bool.true_eq_false, reduceCtorEq]
    · cases hfu : o.full
      · have hg' := fun w => hg w false
        have hd' := fun w => hd w false o.phase
        simp only [hfu, a] at hg' hd'
        simp only [a, k, geti_eq w1 w2, rClear_eq hw w3 w4, hfu, r2Set_eq hl, hg', hd', Option.bind_some, Option.bind_none, Option.bind_eq_bind, ↓Bool.cond_eq_ite, decide_eq_true_eq, beq_iff_eq, bne_iff_ne, ne_eq, Bool.not_eq_true', Bool.not_eq_true, Bool.not_eq_false', Bool.not_not, decide_eq_false_iff_not, reduceIte, not_true_eq_false, not_false_eq_true, Bool.false_eq_true, Bool.true_eq_false, reduceCtorEq]
        split <;> rfl
      · have hg' := fun w => hg w true
        have hd' := fun w => hd w true o.phase
        simp only [hfu, a] at hg' hd'
        simp only [a, k, geti_eq w1 w2, rClear_eq hw w3 w4, rSet_eq hw w3 w4, hfu, r2Set_eq hl, hg', hd', Option.bind_some, Option.bind_none, Option.bind_eq_bind, ↓Bool.cond_eq_ite, decide_eq_true_eq, beq_iff_eq, bne_iff_ne, ne_eq, Bool.not_eq_true', Bool.not_eq_true, Bool.not_eq_false', Bool.not_not, decide_eq_false_iff_not, reduceIte, not_true_eq_false, not_false_eq_true, Bool.false_eq_true, Bool.true_eq_false, reduceCtorEq]
        split <;> rfl
  · have e : wh c o = (leaves (many c.block) + o.leaf / 64, o.leaf % 64) := if_neg a
    unfold hstep
    rw [e] at w1 w2 w3 w4 hu ⊢
    try simp only at w1 w2 w3 w4 hu
    have hd : ∀ w p, don c { o with word := w, phase := p } = if o.full = true ∧ w ≠ 18446744073709551615 then goes c { o with word := w, phase := p } else { o with word := w, phase := 4, at_ := 1 } := fun w p => by unfold don; simp [a]
    by_cases k : o.phase = 4
    · have hg' := fun w => hg w o.full
      have hd' := fun w => hd w 4
      simp only [k] at hg' hd'
      simp only [a, k, geti_eq w1 w2, rHas_eq hu w3 w4, Option.bind_some, Option.bind_none, Option.bind_eq_bind, ↓Bool.cond_eq_ite, decide_eq_true_eq, beq_iff_eq, bne_iff_ne, ne_eq, Bool.not_eq_true', Bool.not_eq_true, Bool.not_eq_false', Bool.not_not, decide_eq_false_iff_not, reduceIte, not_true_eq_false, not_false_eq_true, Bool.false_eq_true, Bool.true_eq_false, reduceCtorEq]
      by_cases q : hs (gt l (leaves (many c.block) + o.leaf / 64)) (o.leaf % 64) = o.full
      · simp only [q, hg', hd', beq_self_eq_true, Option.bind_some, Option.bind_none, Option.bind_eq_bind, ↓Bool.cond_eq_ite, decide_eq_true_eq, beq_iff_eq, bne_iff_ne, ne_eq, Bool.not_eq_true', Bool.not_eq_true, Bool.not_eq_false', Bool.not_not, decide_eq_false_iff_not, reduceIte, not_true_eq_false, not_false_eq_true, Bool.false_eq_true, Bool.true_eq_false, reduceCtorEq]
        cases hfu : o.full
        · simp only [false_and, Option.bind_some, Option.bind_none, Option.bind_eq_bind, ↓Bool.cond_eq_ite, decide_eq_true_eq, beq_iff_eq, bne_iff_ne, ne_eq, Bool.not_eq_true', Bool.not_eq_true, Bool.not_eq_false', Bool.not_not, decide_eq_false_iff_not, reduceIte, not_true_eq_false, not_false_eq_true, Bool.false_eq_true, Bool.true_eq_false, reduceCtorEq]
        · simp only [true_and, Option.bind_some, Option.bind_none, Option.bind_eq_bind, ↓Bool.cond_eq_ite, decide_eq_true_eq, beq_iff_eq, bne_iff_ne, ne_eq, Bool.not_eq_true', Bool.not_eq_true, Bool.not_eq_false', Bool.not_not, decide_eq_false_iff_not, reduceIte, not_true_eq_false, not_false_eq_true, Bool.false_eq_true, Bool.true_eq_false, reduceCtorEq]
          split <;> rfl
      · simp only [q, beq_eq_false_iff_ne, Option.bind_some, Option.bind_none, Option.bind_eq_bind, ↓Bool.cond_eq_ite, decide_eq_true_eq, beq_iff_eq, bne_iff_ne, ne_eq, Bool.not_eq_true', Bool.not_eq_true, Bool.not_eq_false', Bool.not_not, decide_eq_false_iff_not, reduceIte, not_true_eq_false, not_false_eq_true, Bool.false_eq_true, Bool.true_eq_false, reduceCtorEq]
    · cases hfu : o.full
      · have hg' := fun w => hg w false
        have hd' := fun w => hd w o.phase
        simp only [hfu] at hg' hd'
        simp only [a, k, geti_eq w1 w2, rClear_eq hw w3 w4, hfu, r2Set_eq hl, hg', hd', false_and, Option.bind_some, Option.bind_none, Option.bind_eq_bind, ↓Bool.cond_eq_ite, decide_eq_true_eq, beq_iff_eq, bne_iff_ne, ne_eq, Bool.not_eq_true', Bool.not_eq_true, Bool.not_eq_false', Bool.not_not, decide_eq_false_iff_not, reduceIte, not_true_eq_false, not_false_eq_true, Bool.false_eq_true, Bool.true_eq_false, reduceCtorEq]
        split <;> rfl
      · have hg' := fun w => hg w true
        have hd' := fun w => hd w o.phase
        simp only [hfu] at hg' hd'
        simp only [a, k, geti_eq w1 w2, rClear_eq hw w3 w4, rSet_eq hw w3 w4, hfu, r2Set_eq hl, hg', hd', true_and, Option.bind_some, Option.bind_none, Option.bind_eq_bind, ↓Bool.cond_eq_ite, decide_eq_true_eq, beq_iff_eq, bne_iff_ne, ne_eq, Bool.not_eq_true', Bool.not_eq_true, Bool.not_eq_false', Bool.not_not, decide_eq_false_iff_not, reduceIte, not_true_eq_false, not_false_eq_true, Bool.false_eq_true, Bool.true_eq_false, reduceCtorEq]
        split <;> split <;> rfl
theorem Asks_refl {a : Ask} (h : a.addrs.length ≤ 100000) : lodgerref08_Asks a a = some true := by
  unfold lodgerref08_Asks
  simp only [lodgerref08_Addrs_eq _ _ (show a.addrs.length ≤ 4000000000000000000 by omega), decide_true, Option.bind_some, Option.bind_none, Option.bind_eq_bind, ↓Bool.cond_eq_ite, decide_eq_true_eq, beq_iff_eq, bne_iff_ne, ne_eq, Bool.not_eq_true', Bool.not_eq_true, Bool.not_eq_false', Bool.not_not, decide_eq_false_iff_not, reduceIte, not_true_eq_false, not_false_eq_true, Bool.false_eq_true, Bool.true_eq_false, reduceCtorEq]
theorem Answers_refl {a : Answer} (h : a.addrs.length ≤ 100000) (h2 : a.errs.length ≤ 100000) : lodgerref08_Answers a a = some true := by
  unfold lodgerref08_Answers
  simp only [lodgerref08_Addrs_eq _ _ (show a.addrs.length ≤ 4000000000000000000 by omega), lodgerref08_Errs_eq _ _ (show a.errs.length ≤ 4000000000000000000 by omega), decide_true, beq_self_eq_true, Option.bind_some, Option.bind_none, Option.bind_eq_bind, ↓Bool.cond_eq_ite, decide_eq_true_eq, beq_iff_eq, bne_iff_ne, ne_eq, Bool.not_eq_true', Bool.not_eq_true, Bool.not_eq_false', Bool.not_not, decide_eq_false_iff_not, reduceIte, not_true_eq_false, not_false_eq_true, Bool.false_eq_true, Bool.true_eq_false, reduceCtorEq]
theorem Same_refl {o : Oq} (h : o.ask.addrs.length ≤ 100000) (h2 : o.answer.addrs.length ≤ 100000) (h3 : o.answer.errs.length ≤ 100000) (h4 : o.seen.length ≤ 100000) : lodgerref08_Same o o = some true := by
  unfold lodgerref08_Same
  simp only [Asks_refl h, Answers_refl h2 h3, lodgerref02_Same_eq _ _ (show o.seen.length ≤ 4000000000000000000 by omega), decide_true, beq_self_eq_true, Option.bind_some, Option.bind_none, Option.bind_eq_bind, ↓Bool.cond_eq_ite, decide_eq_true_eq, beq_iff_eq, bne_iff_ne, ne_eq, Bool.not_eq_true', Bool.not_eq_true, Bool.not_eq_false', Bool.not_not, decide_eq_false_iff_not, reduceIte, not_true_eq_false, not_false_eq_true, Bool.false_eq_true, Bool.true_eq_false, reduceCtorEq]
theorem goes_len {c : Conf} {o : Oq} : (goes c o).ask = o.ask ∧ (goes c o).answer = o.answer ∧ (goes c o).seen = o.seen := by unfold goes; split <;> exact ⟨rfl, rfl, rfl⟩
theorem don_len {c : Conf} {o : Oq} : (don c o).ask = o.ask ∧ (don c o).answer = o.answer ∧ (don c o).seen = o.seen := by
  unfold don; split
  · exact goes_len
  · exact ⟨rfl, rfl, rfl⟩
theorem hstep_len {c : Conf} {l : List Int} {o : Oq} : (hstep c l o).2.ask = o.ask ∧ (hstep c l o).2.answer = o.answer ∧ (hstep c l o).2.seen = o.seen ∧ (hstep c l o).1.length = l.length := by
  unfold hstep
  split
  · split
    · exact ⟨don_len.1, don_len.2.1, don_len.2.2, rfl⟩
    · exact ⟨rfl, rfl, rfl, rfl⟩
  · refine ⟨don_len.1, don_len.2.1, don_len.2.2, ?_⟩
    simp only
    split
    · rw [pt_len]
    · rfl
theorem v_u64s {l : List Int} (h : WfV E (.slice u64) l) : ∀ x, x ∈ l → U64 x := (v_slice (k := .u64) h).2
theorem pure_HintSteps (c : Conf) (l : List Int) (o : Oq) (f t : Int) (hc : WfV E (.st 1) c) (hl : WfV E (.slice u64) l) (ho : WfV E (.st 4) o) (hf : WfV E (.int .u8) f) (ht : WfV E (.int .u8) t) : lodgerlaw08_HintSteps c l o f t = some true := by
  have wc := v_conf hc
  have wo := v_op ho
  obtain ⟨b, e, hb⟩ := rFits_eq wc (v_u64s hl)
  have ⟨f1, f2⟩ := v_int (k := .u8) hf
  have ⟨t1, t2⟩ := v_int (k := .u8) ht
  change 0 ≤ f at f1; change 0 ≤ t at t1; change f ≤ 255 at f2; change t ≤ 255 at t2
  unfold lodgerlaw08_HintSteps
  rw [awake08, e]
  cases b
  · rfl
  have fit := hb rfl
  obtain ⟨b, e2, hb2⟩ := rWhole_eq fit.ok.blk wc wo
  rw [e2]
  cases b
  · rfl
  have w := hb2 rfl
  have i1 : IntKind.i64.wrap (f.tmod 65) = f % 65 := by rw [Int.tmod_eq_emod_of_nonneg f1]; exact i64_in _ (by omega)
  have i2 : IntKind.i64.wrap (t.tmod 65) = t % 65 := by rw [Int.tmod_eq_emod_of_nonneg t1]; exact i64_in _ (by omega)
  have q1 : 0 ≤ f % 65 := by omega
  have q2 : t % 65 ≤ 64 := by omega
  have hg := goes_len (c := c) (o := o)
  have hs := hstep_len (c := c) (l := l) (o := o)
  have hS := Same_refl (o := goes c o) (by rw [hg.1]; have := w.la; omega) (by rw [hg.2.1]; have := w.lx; omega) (by rw [hg.2.1]; have := w.le; omega) (by rw [hg.2.2]; have := w.ls; omega)
  have hT := Same_refl (o := (hstep c l o).2) (by rw [hs.1]; have := w.la; omega) (by rw [hs.2.1]; have := w.lx; omega) (by rw [hs.2.1]; have := w.le; omega) (by rw [hs.2.2.1]; have := w.ls; omega)
  have hc2 := lodgerref02_Same_eq (hstep c l o).1 (hstep c l o).1 (by rw [hs.2.2.2]; have := fit.small; omega)
  have ub := wc.block.base
  have ua := wo.ask.addrs.2
  have i3 : o.item ≤ 1000000 := by have := w.item1; omega
  simp only [i1, i2, Find_eq wo.word q1 (show t % 65 ≤ 1000000000000000000 by omega), rFind_eq wo.word q1 q2, Goes_eq fit.ok.blk ub ua w.item0 i3, rGoes_eq fit.ok.blk ub ua w.item0 i3, hS, beq_self_eq_true, Step_eq fit ub ua w.item0 i3 wo.word w.leaf0 w.leaf1 w.at0 w.at1,
    rStep_eq fit ub ua w.item0 i3 wo.word w.leaf0 w.leaf1 w.at0 w.at1, hT, hc2, decide_true, ite_self, Option.bind_some, Option.bind_none, Option.bind_eq_bind, ↓Bool.cond_eq_ite, decide_eq_true_eq, beq_iff_eq, bne_iff_ne, ne_eq, Bool.not_eq_true', Bool.not_eq_true, Bool.not_eq_false', Bool.not_not, decide_eq_false_iff_not, reduceIte, not_true_eq_false, not_false_eq_true, Bool.false_eq_true, Bool.true_eq_false, reduceCtorEq]
theorem pure_HintKeeps (c : Conf) (l : List Int) (o : Oq) (hc : WfV E (.st 1) c) (hl : WfV E (.slice u64) l) (ho : WfV E (.st 4) o) : lodgerlaw08_HintKeeps c l o = some true := by
  have wc := v_conf hc
  have wo := v_op ho
  obtain ⟨b, e, hb⟩ := rFits_eq wc (v_u64s hl)
  unfold lodgerlaw08_HintKeeps
  rw [awake08, e]
  cases b
  · rfl
  have fit := hb rfl
  obtain ⟨b, e2, hb2⟩ := rWhole_eq fit.ok.blk wc wo
  rw [e2]
  cases b
  · rfl
  have w := hb2 rfl
  have ub := wc.block.base
  have ua := wo.ask.addrs.2
  have i3 : o.item ≤ 1000000 := by have := w.item1; omega
  have hs := fit.small
  have hc2 := lodgerref02_Same_eq l l (by omega)
  have hm : l.length ≤ maxList := hs
  simp only [Step_eq fit ub ua w.item0 i3 wo.word w.leaf0 w.leaf1 w.at0 w.at1, hc2, decide_true, ite_self, hm, Option.bind_some, Option.bind_none, Option.bind_eq_bind, ↓Bool.cond_eq_ite, decide_eq_true_eq, beq_iff_eq, bne_iff_ne, ne_eq, Bool.not_eq_true', Bool.not_eq_true, Bool.not_eq_false', Bool.not_not, decide_eq_false_iff_not, reduceIte, not_true_eq_false, not_false_eq_true, Bool.false_eq_true, Bool.true_eq_false, reduceCtorEq]
end
end Go.Lv.Ld
