import Derived.Test.YtmmfioeadefceaaLvP7
namespace Go.Lv.Ld
set_option linter.all false
noncomputable section
open Go Go.Lv Go.IntWalk

theorem pt_same {l : List Int} {i : Int} (h0 : 0 ≤ i) (h : i < (l.length : Int)) : pt l i (gt l i) = l :=
  list_ext (pt_len _ _ _) fun j q1 q2 => by
    rw [pt_len] at q2
    rw [gt_pt q1 q2 h0]
    split
    · rename_i e; rw [e]
    · rfl
/-- What is to be kept when a mark is done. -/
structure Kept (l m : List Int) (f : Bool) (T tb R rb : Int) (rg : Bool) : Prop where
  len : m.length = l.length
  top : hs (gt m T) tb = f
  root : rg = true → hs (gt m R) rb = (gt m T == 18446744073709551615)
  rest : ∀ k : Int, 0 ≤ k → k < (l.length : Int) → k ≠ T → k ≠ R → gt m k = gt l k
  ct : cl (gt m T) tb = cl (gt l T) tb
  cr : cl (gt m R) rb = cl (gt l R) rb
section
variable {c : Conf} {l m : List Int} {f rg : Bool} {T tb R rb : Int} (hu : ∀ x, x ∈ l → U64 x) (hum : ∀ x, x ∈ m → U64 x) (hk : Kept l m f T tb R rb rg) (hT : 0 ≤ T ∧ T < (l.length : Int)) (hR : 0 ≤ R ∧ R < (l.length : Int)) (hb : 0 ≤ tb ∧ tb < 64) (hr : 0 ≤ rb ∧ rb < 64) (hlen : l.length ≤ 137438953472)
include hu hum hk hT hR hb hr hlen
theorem HO_l1 : ∀ (d n : Nat) (k : Int), d < n → 0 ≤ k → ((l.length : Int) - k).toNat = d → k ≤ l.length → lodgerlaw08_HintOnly_l1 n l T tb R rb m k = some true := by
  have hT2 : T < (m.length : Int) := by rw [hk.len]; exact hT.2
  have hR2 : R < (m.length : Int) := by rw [hk.len]; exact hR.2
  have u1 := hu _ (gt_mem hT.1 hT.2)
  have u2 := hu _ (gt_mem hR.1 hR.2)
  have u3 := hum _ (gt_mem hT.1 hT2)
  have u4 := hum _ (gt_mem hR.1 hR2)
  intro d
  induction d with
  | zero =>
    intro n k hn h1 h2 h3
    obtain ⟨j, rfl⟩ : ∃ m, n = m + 1 := ⟨n - 1, by omega⟩
    rw [su1_lodgerlaw08_HintOnly]
    unfold lodgerlaw08_HintOnly_s1
    have hx : ¬ k < (l.length : Int) := by omega
    simp only [hx, geti_eq hT.1 hT.2, geti_eq hR.1 hR.2, geti_eq hT.1 hT2, geti_eq hR.1 hR2, rClear_eq u1 hb.1 hb.2, rClear_eq u2 hr.1 hr.2, rClear_eq u3 hb.1 hb.2, rClear_eq u4 hr.1 hr.2, hk.ct, hk.cr, beq_self_eq_true, Option.bind_some, Option.bind_none, Option.bind_eq_bind, ↓Bool.cond_eq_ite, decide_eq_true_eq, beq_iff_eq, bne_iff_ne, ne_eq, Bool.not_eq_true', Bool.not_eq_true, Bool.not_eq_false', Bool.not_not, decide_eq_false_iff_not, reduceIte, not_true_eq_false, not_false_eq_true, Bool.false_eq_true, Bool.true_eq_false, reduceCtorEq]
  | succ d ih =>
    intro n k hn h1 h2 h3
    obtain ⟨j, rfl⟩ : ∃ m, n = m + 1 := ⟨n - 1, by omega⟩
    rw [su1_lodgerlaw08_HintOnly]
    unfold lodgerlaw08_HintOnly_s1
    have hx : k < (l.length : Int) := by omega
    have hy := ih j (k + 1) (by omega) (by omega) (by omega) (by omega)
    rw [i64_in (k + 1) (by omega)]
    by_cases a : k = T
    · subst a
      simp only [hx, not_true_eq_false, hy, Option.bind_some, Option.bind_none, Option.bind_eq_bind, ↓Bool.cond_eq_ite, decide_eq_true_eq, beq_iff_eq, bne_iff_ne, ne_eq, Bool.not_eq_true', Bool.not_eq_true, Bool.not_eq_false', Bool.not_not, decide_eq_false_iff_not, reduceIte, not_true_eq_false, not_false_eq_true, Bool.false_eq_true, Bool.true_eq_false, reduceCtorEq]
    by_cases b : k = R
    · subst b
      simp only [hx, a, not_true_eq_false, hy, Option.bind_some, Option.bind_none, Option.bind_eq_bind, ↓Bool.cond_eq_ite, decide_eq_true_eq, beq_iff_eq, bne_iff_ne, ne_eq, Bool.not_eq_true', Bool.not_eq_true, Bool.not_eq_false', Bool.not_not, decide_eq_false_iff_not, reduceIte, not_true_eq_false, not_false_eq_true, Bool.false_eq_true, Bool.true_eq_false, reduceCtorEq]
    · have hg := hk.rest k h1 hx a b
      simp only [hx, a, b, geti_eq h1 hx, geti_eq h1 (show k < (m.length : Int) by rw [hk.len]; exact hx), hg, not_true_eq_false, hy, Option.bind_some, Option.bind_none, Option.bind_eq_bind, ↓Bool.cond_eq_ite, decide_eq_true_eq, beq_iff_eq, bne_iff_ne, ne_eq, Bool.not_eq_true', Bool.not_eq_true, Bool.not_eq_false', Bool.not_not, decide_eq_false_iff_not, reduceIte, not_true_eq_false, not_false_eq_true, Bool.false_eq_true, Bool.true_eq_false, reduceCtorEq]
theorem HO_exit (n : Nat) (hn : l.length < n) (s i : Int) : lodgerlaw08_HintOnly_l0 (n + 1) l f T tb R rb rg m s c (mo i false 0 0 0) = some true := by
  have hT2 : T < (m.length : Int) := by rw [hk.len]; exact hT.2
  have hR2 : R < (m.length : Int) := by rw [hk.len]; exact hR.2
  have u3 := hum _ (gt_mem hT.1 hT2)
  have u4 := hum _ (gt_mem hR.1 hR2)
  have e := HO_l1 hu hum hk hT hR hb hr hlen l.length n 0 hn (by omega) (by omega) (by omega)
  rw [su0_lodgerlaw08_HintOnly]
  unfold lodgerlaw08_HintOnly_s0
  have hr2 := hk.root
  cases rg
  · simp only [show (mo i false 0 0 0).phase = 0 from rfl, not_true_eq_false, hk.len, geti_eq hT.1 hT2, rHas_eq u3 hb.1 hb.2, hk.top, beq_self_eq_true, e, ite_self, Option.bind_some, Option.bind_none, Option.bind_eq_bind, ↓Bool.cond_eq_ite, decide_eq_true_eq, beq_iff_eq, bne_iff_ne, ne_eq, Bool.not_eq_true', Bool.not_eq_true, Bool.not_eq_false', Bool.not_not, decide_eq_false_iff_not, reduceIte, not_true_eq_false, not_false_eq_true, Bool.false_eq_true, Bool.true_eq_false, reduceCtorEq]
  · simp only [show (mo i false 0 0 0).phase = 0 from rfl, not_true_eq_false, hk.len, geti_eq hT.1 hT2, rHas_eq u3 hb.1 hb.2, hk.top, beq_self_eq_true, e, geti_eq hR.1 hR2, rHas_eq u4 hr.1 hr.2, hr2 rfl, ite_self, Option.bind_some, Option.bind_none, Option.bind_eq_bind, ↓Bool.cond_eq_ite, decide_eq_true_eq, beq_iff_eq, bne_iff_ne, ne_eq, Bool.not_eq_true', Bool.not_eq_true, Bool.not_eq_false', Bool.not_not, decide_eq_false_iff_not, reduceIte, not_true_eq_false, not_false_eq_true, Bool.false_eq_true, Bool.true_eq_false, reduceCtorEq]
end
theorem HO_step {c : Conf} {l m m' : List Int} {f rg : Bool} {T tb R rb s : Int} {o o' : Oq} (h : hint_Step c m o = some (m', o')) (hp : o.phase ≠ 0) (n : Nat) (h0 : 0 ≤ s) (h4 : s < 4) :
    lodgerlaw08_HintOnly_l0 (n + 1) l f T tb R rb rg m s c o = lodgerlaw08_HintOnly_l0 n l f T tb R rb rg m' (s + 1) c o' := by
  rw [su0_lodgerlaw08_HintOnly]
  unfold lodgerlaw08_HintOnly_s0
  rw [i64_in (s + 1) (by omega)]
  simp only [h4, hp, h, Option.bind_some, Option.bind_none, Option.bind_eq_bind, ↓Bool.cond_eq_ite, decide_eq_true_eq, beq_iff_eq, bne_iff_ne, ne_eq, Bool.not_eq_true', Bool.not_eq_true, Bool.not_eq_false', Bool.not_not, decide_eq_false_iff_not, reduceIte, not_true_eq_false, not_false_eq_true, Bool.false_eq_true, Bool.true_eq_false, reduceCtorEq]
def tob (f : Bool) (w i : Int) : Int := if f then st w i else cl w i
theorem tob_id {f : Bool} {w i : Int} (hw : U64 w) (h0 : 0 ≤ i) (h : i < 64) (e : hs w i = f) : tob f w i = w := by
  cases f
  · exact cl_id hw h0 e
  · exact st_id hw h0 h e
theorem hs_tob {f : Bool} {w i : Int} (hw : U64 w) (h0 : 0 ≤ i) : hs (tob f w i) i = f := by
  cases f
  · show hs (cl w i) i = false
    rw [hs_cl hw h0 h0]; simp
  · show hs (st w i) i = true
    rw [hs_st h0 h0]; simp
theorem tob_u {f : Bool} {w i : Int} (hw : U64 w) (h0 : 0 ≤ i) (h : i < 64) : U64 (tob f w i) := to_u hw h0 h f
theorem cl_tob {f : Bool} {w i : Int} (hw : U64 w) (h0 : 0 ≤ i) (h : i < 64) : cl (tob f w i) i = cl w i := by
  have hu := tob_u (f := f) hw h0 h
  refine hs_ext (cl_u hu) (cl_u hw) fun j q1 q2 => ?_
  rw [hs_cl hu h0 q1, hs_cl hw h0 q1]
  by_cases e : i = j
  · simp [e]
  · cases f
    · show (hs (cl w i) j && _) = _
      rw [hs_cl hw h0 q1]; simp [e]
    · show (hs (st w i) j && _) = _
      rw [hs_st h0 q1]; simp [e]
theorem st_all {i : Int} (h0 : 0 ≤ i) (h : i < 64) : st 18446744073709551615 i = 18446744073709551615 := st_id (by unfold U64; omega) h0 h (hs_all h0 h)
theorem not_all {w i : Int} (h0 : 0 ≤ i) (h : i < 64) (e : hs w i = false) : (w == 18446744073709551615) = false := by
  rw [beq_eq_false_iff_ne]
  rintro rfl
  rw [hs_all h0 h] at e
  cases e
theorem pure_HintOnly (c : Conf) (l : List Int) (a : Int) (f : Bool) (hc : WfV E (.st 1) c) (hl : WfV E (.slice u64) l) (ha : WfV E (.int .u16) a) (hF : WfV E .bool f) : lodgerlaw08_HintOnly c l a f = some true := by
  have wc := v_conf hc
  obtain ⟨b, e, hb⟩ := rFits_eq wc (v_u64s hl)
  have ⟨f1, f2⟩ := v_int (k := .u16) ha
  change 0 ≤ a at f1; change a ≤ 65535 at f2
  unfold lodgerlaw08_HintOnly lodgerlaw08_HintOnly_n lodgerlaw08_HintOnly_e
  rw [awake08, e]
  cases b
  · rfl
  have fit := hb rfl
  have hm := many_b fit.ok.blk
  have hL := leaves_b hm.1 hm.2
  obtain ⟨i1, i2, i3⟩ := leaf_in fit.ok.blk f1 f2
  have ub := wc.block.base
  simp only [Option.bind_some, Bool.not_true, cond_false, rMany_eq fit.ok.blk, rLeaves_eq hm.1 hm.2, i1, rTop_eq hm.1 hm.2 i2 (show a % leaves (many c.block) ≤ 2048 by omega), rRoot_eq hm.1 hm.2 i2 (show a % leaves (many c.block) ≤ 2048 by omega)]
  generalize a % leaves (many c.block) = i at *
  have hz : (leaves (many c.block) == 0) = false := beq_eq_false_iff_ne.2 (by omega)
  rw [hz, cond_false]
  obtain ⟨t1, t2, t3, t4, t5, t6, t7⟩ := cells_b fit i2 i3
  have z : U64 0 := by unfold U64; omega
  have tl : topc c i < (l.length : Int) := by omega
  have r0 : 0 ≤ rootc c := by omega
  have gt1 := geti_eq (l := l) t1 tl
  have gr1 := geti_eq (l := l) r0 t3
  have gu := fit.u _ (gt_mem (l := l) t1 tl)
  have gv := fit.u _ (gt_mem (l := l) r0 t3)
  rw [show leaves (many c.block) + i / 64 = topc c i from rfl, show leaves (many c.block) + tops (many c.block) = rootc c from rfl, gt1, gr1]
  simp only [Option.bind_some, rHas_eq gv t6 t7]
  rw [show (⟨⟨0, 0, []⟩, ⟨0, 0, false, [], []⟩, 4, 0, 0, i, 0, 0, f, [], 0, 0, 0, 0⟩ : Oq) = mo i f 4 0 0 from rfl]
  -- what is left in the end
  have hlen := fit.small
  have vu := tob_u (f := f) gu t4 t5
  have ru := tob_u (f := f) gv t6 t7
  have key : ∀ (m : List Int), (∀ x, x ∈ m → U64 x) → m.length = l.length → (∀ k : Int, 0 ≤ k → k < (l.length : Int) → k ≠ topc c i → k ≠ rootc c → gt m k = gt l k) → gt m (topc c i) = tob f (gt l (topc c i)) (i % 64) →
      gt m (rootc c) = (if f = true ∧ tob f (gt l (topc c i)) (i % 64) ≠ 18446744073709551615 then gt l (rootc c) else tob f (gt l (rootc c)) (i / 64)) →
      ∀ (n : Nat), l.length < n → ∀ (s : Int), lodgerlaw08_HintOnly_l0 (n + 1) l f (topc c i) (i % 64) (rootc c) (i / 64) (hs (gt l (rootc c)) (i / 64) == (gt l (topc c i) == 18446744073709551615)) m s c (mo i false 0 0 0) = some true := by
    intro m hum hml hrest hmt hmr n hn s
    refine HO_exit fit.u hum ⟨hml, ?_, ?_, hrest, ?_, ?_⟩ ⟨t1, tl⟩ ⟨r0, t3⟩ ⟨t4, t5⟩ ⟨t6, t7⟩ hlen n hn s i
    · rw [hmt, hs_tob gu t4]
    · intro hrg
      have hrg := beq_iff_eq.1 hrg
      rw [hmt, hmr]
      by_cases q : f = true ∧ tob f (gt l (topc c i)) (i % 64) ≠ 18446744073709551615
      · rw [if_pos q, hrg, beq_eq_false_iff_ne.2 q.2]
        by_cases w : gt l (topc c i) = 18446744073709551615
        · exfalso
          apply q.2
          rw [w, q.1]
          exact st_all t4 t5
        · exact beq_eq_false_iff_ne.2 w
      · rw [if_neg q, hs_tob gv t6]
        cases f
        · exact (not_all t4 t5 (hs_tob (f := false) gu t4)).symm
        · by_cases w : tob true (gt l (topc c i)) (i % 64) = 18446744073709551615
          · rw [w]; rfl
          · exact absurd ⟨rfl, w⟩ q
    · rw [hmt, cl_tob gu t4 t5]
    · rw [hmr]
      split
      · rfl
      · rw [cl_tob gv t6 t7]
  -- the steps
  have fuel : ∀ k : Nat, l.length < 4611686018427387890 + k := fun k => by omega
  rw [show big = 4611686018427387890 + 14 from rfl]
  generalize 4611686018427387890 = N at fuel
  generalize (hs (gt l (rootc c)) (i / 64) == (gt l (topc c i) == 18446744073709551615)) = rg at *
  have s1 := Step_mo fit ub i2 i3 f 4 (a := 0) (w := 0) z (by omega) (by omega)
  rw [step_mo40] at s1
  by_cases q : hs (gt l (topc c i)) (i % 64) = f
  · rw [if_pos q, don_mo0] at s1
    have ev : tob f (gt l (topc c i)) (i % 64) = gt l (topc c i) := tob_id gu t4 t5 q
    rw [ev] at key
    by_cases d : f = true ∧ gt l (topc c i) ≠ 18446744073709551615
    · rw [if_pos d] at s1
      rw [HO_step s1 (show (4 : Int) ≠ 0 by decide) _ (by omega) (by omega)]
      exact key l fit.u rfl (fun _ _ _ _ _ => rfl) rfl (by rw [if_pos d]) _ (fuel _) _
    · rw [if_neg d] at s1
      rw [HO_step s1 (show (4 : Int) ≠ 0 by decide) _ (by omega) (by omega)]
      have s2 := Step_mo fit ub i2 i3 f 4 (a := 1) gu (by omega) (by omega)
      rw [step_mo41] at s2
      by_cases q2 : hs (gt l (rootc c)) (i / 64) = f
      · rw [if_pos q2] at s2
        rw [HO_step s2 (show (4 : Int) ≠ 0 by decide) _ (by omega) (by omega)]
        exact key l fit.u rfl (fun _ _ _ _ _ => rfl) rfl (by rw [if_neg d, tob_id gv t6 t7 q2]) _ (fuel _) _
      · rw [if_neg q2] at s2
        rw [HO_step s2 (show (4 : Int) ≠ 0 by decide) _ (by omega) (by omega)]
        have s3 := Step_mo fit ub i2 i3 f 5 (a := 1) gv (by omega) (by omega)
        rw [step_mo51, if_pos rfl] at s3
        rw [HO_step s3 (show (5 : Int) ≠ 0 by decide) _ (by omega) (by omega)]
        refine key _ (pt_u U64 fit.u ru) (pt_len _ _ _) (fun k k1 k2 k3 k4 => ?_) ?_ ?_ _ (fuel _) _
        · rw [gt_pt k1 k2 r0, if_neg (fun e => k4 e.symm)]
        · rw [gt_pt t1 tl r0, if_neg (by omega)]
        · rw [gt_pt r0 t3 r0, if_pos rfl, if_neg d]
  · rw [if_neg q] at s1
    rw [HO_step s1 (show (4 : Int) ≠ 0 by decide) _ (by omega) (by omega)]
    have s2 := Step_mo fit ub i2 i3 f 5 (a := 0) gu (by omega) (by omega)
    rw [step_mo50, if_pos rfl, don_mo0, show (if f = true then st (gt l (topc c i)) (i % 64) else cl (gt l (topc c i)) (i % 64)) = tob f (gt l (topc c i)) (i % 64) from rfl] at s2
    generalize tob f (gt l (topc c i)) (i % 64) = v at *
    have fit2 := fit.pt (topc c i) vu
    have g1 : gt (pt l (topc c i) v) (topc c i) = v := by rw [gt_pt t1 tl t1, if_pos rfl]
    have g2 : gt (pt l (topc c i) v) (rootc c) = gt l (rootc c) := by rw [gt_pt r0 t3 t1, if_neg (by omega)]
    have g3 : ∀ k : Int, 0 ≤ k → k < (l.length : Int) → k ≠ topc c i → k ≠ rootc c → gt (pt l (topc c i) v) k = gt l k := fun k k1 k2 k3 k4 => by rw [gt_pt k1 k2 t1, if_neg (fun e => k3 e.symm)]
    by_cases d : f = true ∧ v ≠ 18446744073709551615
    · rw [if_pos d] at s2
      rw [HO_step s2 (show (5 : Int) ≠ 0 by decide) _ (by omega) (by omega)]
      exact key _ fit2.u (pt_len _ _ _) g3 g1 (by rw [if_pos d, g2]) _ (fuel _) _
    · rw [if_neg d] at s2
      rw [HO_step s2 (show (5 : Int) ≠ 0 by decide) _ (by omega) (by omega)]
      have s3 := Step_mo fit2 ub i2 i3 f 4 (a := 1) vu (by omega) (by omega)
      rw [step_mo41, g2] at s3
      by_cases q2 : hs (gt l (rootc c)) (i / 64) = f
      · rw [if_pos q2] at s3
        rw [HO_step s3 (show (4 : Int) ≠ 0 by decide) _ (by omega) (by omega)]
        exact key _ fit2.u (pt_len _ _ _) g3 g1 (by rw [if_neg d, g2, tob_id gv t6 t7 q2]) _ (fuel _) _
      · rw [if_neg q2] at s3
        rw [HO_step s3 (show (4 : Int) ≠ 0 by decide) _ (by omega) (by omega)]
        have s4 := Step_mo fit2 ub i2 i3 f 5 (a := 1) gv (by omega) (by omega)
        rw [step_mo51, g2, if_pos rfl] at s4
        rw [HO_step s4 (show (5 : Int) ≠ 0 by decide) _ (by omega) (by omega)]
        refine key _ (pt_u U64 fit2.u ru) (by rw [pt_len, pt_len]) (fun k k1 k2 k3 k4 => ?_) ?_ ?_ _ (fuel _) _
        · rw [gt_pt k1 (by rw [pt_len]; exact k2) r0, if_neg (fun e => k4 e.symm), g3 k k1 k2 k3 k4]
        · rw [gt_pt t1 (by rw [pt_len]; exact tl) r0, if_neg (by omega), g1]
        · rw [gt_pt r0 (by rw [pt_len]; exact t3) r0, if_pos rfl, if_neg d]

/-- A batch goes on. -/
theorem HB_l (c : Conf) (o : Oq) (ok : OKb c.block) (wc : WConf c) (wo : WOp o) (w : WhO c o) : ∀ (d n : Nat) (i : Int) (x : Oq), d < n → 1 ≤ i → i ≤ 101 → ((o.ask.addrs.length : Int) - i).toNat ≤ d → x.ask = o.ask → x.answer = o.answer → x.item = i - 1 →
    lodgerlaw08_HintBatch_l0 n i c o x = some true := by
  intro d
  have ub := wc.block.base
  have ua := wo.ask.addrs.2
  have la := w.la
  have h4 := Asks_refl (a := o.ask) (by omega)
  have h5 := Answers_refl (a := o.answer) (by have := w.lx; omega) (by have := w.le; omega)
  have hend : ∀ (n : Nat) (i : Int) (x : Oq), 1 ≤ i → i ≤ 101 → x.ask = o.ask → x.answer = o.answer → x.item = i - 1 → ¬ (i < (o.ask.addrs.length : Int) ∧ o.ask.kind = 4) → lodgerlaw08_HintBatch_l0 (n + 1) i c o x = some true := by
    intro n i x h1 h1b e1 e2 e3 hx
    rw [su0_lodgerlaw08_HintBatch]
    unfold lodgerlaw08_HintBatch_s0
    have hg := Goes_eq (c := c) (o := x) ok ub (by rw [e1]; exact ua) (by omega) (by omega)
    have hp : (goes c x).phase = 0 := by
      unfold goes
      rw [if_neg (by rw [e1, e3]; omega)]
    have gl := goes_len (c := c) (o := x)
    by_cases k : i < (o.ask.addrs.length : Int)
    · have k2 : ¬ o.ask.kind = 4 := fun h => hx ⟨k, h⟩
      simp only [k, k2, hg, hp, gl.1, gl.2.1, e1, e2, h4, h5, beq_self_eq_true, Option.bind_some, Option.bind_none, Option.bind_eq_bind, ↓Bool.cond_eq_ite, decide_eq_true_eq, beq_iff_eq, bne_iff_ne, ne_eq, Bool.not_eq_true', Bool.not_eq_true, Bool.not_eq_false', Bool.not_not, decide_eq_false_iff_not, reduceIte, not_true_eq_false, not_false_eq_true, Bool.false_eq_true, Bool.true_eq_false, reduceCtorEq]
    · simp only [k, hg, hp, gl.1, gl.2.1, e1, e2, h4, h5, beq_self_eq_true, Option.bind_some, Option.bind_none, Option.bind_eq_bind, ↓Bool.cond_eq_ite, decide_eq_true_eq, beq_iff_eq, bne_iff_ne, ne_eq, Bool.not_eq_true', Bool.not_eq_true, Bool.not_eq_false', Bool.not_not, decide_eq_false_iff_not, reduceIte, not_true_eq_false, not_false_eq_true, Bool.false_eq_true, Bool.true_eq_false, reduceCtorEq]
  induction d with
  | zero =>
    intro n i x hn h1 h1b h2 e1 e2 e3
    obtain ⟨m, rfl⟩ : ∃ m, n = m + 1 := ⟨n - 1, by omega⟩
    exact hend m i x h1 h1b e1 e2 e3 (by omega)
  | succ d ih =>
    intro n i x hn h1 h1b h2 e1 e2 e3
    obtain ⟨m, rfl⟩ : ∃ m, n = m + 1 := ⟨n - 1, by omega⟩
    by_cases hx : i < (o.ask.addrs.length : Int) ∧ o.ask.kind = 4
    · obtain ⟨k, k2⟩ := hx
      rw [su0_lodgerlaw08_HintBatch]
      unfold lodgerlaw08_HintBatch_s0
      have hg := Goes_eq (c := c) (o := x) ok ub (by rw [e1]; exact ua) (by omega) (by omega)
      have hy := ih m (i + 1) (goes c x) (by omega) (by omega) (by omega) (by omega)
      have e : goes c x = { x with phase := 8, leaf := off c.block (gt o.ask.addrs i) / 32, bit := off c.block (gt o.ask.addrs i) % 32, word := 0, full := false, at_ := 0, item := i } := by
        unfold goes
        rw [if_pos (by rw [e1, e3]; exact ⟨k2, by omega⟩), e1, e3, show i - 1 + 1 = i by omega]
      have ua1 := ua _ (gt_mem (l := o.ask.addrs) (i := i) (by omega) k)
      have ho := off_b ok (gt o.ask.addrs i)
      have hm := many_b ok
      have i1 : IntKind.i64.wrap (IntKind.i64.wrap (32 * (off c.block (gt o.ask.addrs i) / 32)) + off c.block (gt o.ask.addrs i) % 32) = off c.block (gt o.ask.addrs i) := by
        rw [i64_in (32 * _) (by omega), i64_in _ (by omega)]; omega
      rw [e] at hg hy
      rw [i64_in (i + 1) (by omega)]
      have hy2 := hy e1 e2 (by simp only; omega)
      simp only [k, k2, hg, geti_eq (show 0 ≤ i by omega) k, rOffset_eq ok ub ua1, off_1, i1, not_true_eq_false, hy2, beq_self_eq_true, Option.bind_some, Option.bind_none, Option.bind_eq_bind, ↓Bool.cond_eq_ite, decide_eq_true_eq, beq_iff_eq, bne_iff_ne, ne_eq, Bool.not_eq_true', Bool.not_eq_true, Bool.not_eq_false', Bool.not_not, decide_eq_false_iff_not, reduceIte, not_true_eq_false, not_false_eq_true, Bool.false_eq_true, Bool.true_eq_false, reduceCtorEq]
    · exact hend m i x h1 h1b e1 e2 e3 hx
theorem pure_HintBatch (c : Conf) (o : Oq) (hc : WfV E (.st 1) c) (ho : WfV E (.st 4) o) : lodgerlaw08_HintBatch c o = some true := by
  have wc := v_conf hc
  have wo := v_op ho
  obtain ⟨b, e, hb⟩ := rMay_eq wc
  unfold lodgerlaw08_HintBatch lodgerlaw08_HintBatch_n lodgerlaw08_HintBatch_e
  rw [awake08, e]
  cases b
  · rfl
  have ok := hb rfl
  obtain ⟨b, e2, hb2⟩ := rWhole_eq ok.blk wc wo
  rw [e2]
  cases b
  · rfl
  exact HB_l c o ok.blk wc wo (hb2 rfl) 100 big 1 _ (big_lt (by omega)) (by omega) (by omega) (by have := (hb2 rfl).la; omega) rfl rfl rfl
end
end Go.Lv.Ld
