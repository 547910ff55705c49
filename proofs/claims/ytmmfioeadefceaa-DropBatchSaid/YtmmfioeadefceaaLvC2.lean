import Derived.Test.YtmmfioeadefceaaLvC1
import Derived.Test.YtmmfioeadefceaaLvP8
namespace Go.Lv.Ld
set_option linter.all false
noncomputable section
open Go Go.Lv Go.IntWalk
/-- A grant that looks, or claims. -/
def go1 (i p b w : Int) : Oq := ⟨⟨1, 0, []⟩, ⟨0, 0, false, [], []⟩, p, 0, 0, i, b, w, false, [], 0, 0, 0, 0⟩
/-- A grant that has its address. -/
def gn (c : Conf) (i b p : Int) (f : Bool) : Oq := ⟨⟨1, 0, []⟩, ⟨0, ad c (32 * i + b), false, [], []⟩, p, 0, 0, i, b, 0, f, [], 0, 0, 0, 0⟩
theorem clai_no {c : Conf} {l : List Int} {o : Oq} (h : gt l o.leaf ≠ o.word) (k : o.ask.kind = 1) : clai c l o = (l, { o with phase := 2, word := 0 }, false) := by unfold clai; rw [if_neg h, if_pos k]
theorem clai_ful {c : Conf} {l : List Int} {o : Oq} (h : gt l o.leaf = o.word) (f : ful (cw o.word o.bit) = true) : clai c l o = (pt l o.leaf (cw o.word o.bit), { got c o with phase := 4, full := true, at_ := 0 }, true) := by unfold clai; rw [if_pos h, if_pos f]
theorem clai_not {c : Conf} {l : List Int} {o : Oq} (h : gt l o.leaf = o.word) (f : ful (cw o.word o.bit) = false) : clai c l o = (pt l o.leaf (cw o.word o.bit), goes c (got c o), true) := by unfold clai; rw [if_pos h, if_neg (by rw [f]; simp)]
theorem goes_no {c : Conf} {o : Oq} (h : o.ask.kind ≠ 4) : goes c o = { o with phase := 0, word := 0, full := false, at_ := 0 } := by unfold goes; rw [if_neg (fun q => h q.1)]
theorem got_go1 (c : Conf) (i b w : Int) : got c (go1 i 3 b w) = gn c i b 3 false := rfl
theorem look_yes {c : Conf} {l : List Int} {o : Oq} (h : (fb (gt l o.leaf) 0 32).2 = true) : look c l o = (l, { o with phase := 3, bit := (fb (gt l o.leaf) 0 32).1, word := gt l o.leaf }, false) := by unfold look; rw [if_pos h]
theorem look_not {c : Conf} {l : List Int} {o : Oq} (h : (fb (gt l o.leaf) 0 32).2 = false) : ∃ p, p ≠ 3 ∧ p ≠ 2 ∧ ∃ q, look c l o = (l, q, false) ∧ q.phase = p := by
  unfold look
  rw [if_neg (by rw [h]; simp)]
  split
  · exact ⟨6, by decide, by decide, _, rfl, rfl⟩
  · exact ⟨1, by decide, by decide, _, rfl, rfl⟩
theorem ad_eq (c : Conf) (x : Int) : IntKind.u32.wrap (c.block.base + IntKind.u32.wrap x) = ad c x := rfl
section
variable {c : Conf} {l : List Int} {i b : Int} (fit : Fit c l) (ub : U32 c.block.base) (i0 : 0 ≤ i) (i1 : i < leaves (many c.block)) (b0 : 0 ≤ b) (b1 : b < 32) (hb : hs (gt l i) b = false)
include fit ub i0 i1 b0 b1 hb
theorem CO_l : ∀ (d n : Nat) (k : Int), d < n → 0 ≤ k → ((l.length : Int) - k).toNat = d → k ≤ l.length → lodgerlaw13_ClaimOne_l0 n l b (pt l i (cw (gt l i) b)) k c (go1 i 2 0 0) (go1 i 3 b (gt l i)) = some true := by
  obtain ⟨l1, l2, l3⟩ := fit.leaf i0 i1
  have hs' := fit.small
  have hcw := cw_u (gt l i) b
  have hg : gt (pt l i (cw (gt l i) b)) i = cw (gt l i) b := by rw [gt_pt i0 l1 i0, if_pos rfl]
  have hbt : hs (cw (gt l i) b) b = true := by rw [hs_cw l3 b0 (by omega) b0 b1]; simp
  have hne : cw (gt l i) b ≠ gt l i := fun e => by rw [e, hb] at hbt; cases hbt
  intro d
  induction d with
  | zero =>
    intro n k hn h1 h2 h3
    obtain ⟨m, rfl⟩ : ∃ m, n = m + 1 := ⟨n - 1, by omega⟩
    rw [su0_lodgerlaw13_ClaimOne]
    unfold lodgerlaw13_ClaimOne_s0
    refine cf (decide_eq_false (by omega)) ?_
    have hlen : i < ((pt l i (cw (gt l i) b)).length : Int) := by rw [pt_len]; exact l1
    have s1 := CStep3_eq (c := c) (l := pt l i (cw (gt l i) b)) (o := go1 i 3 b (gt l i)) rfl fit.ok.blk ub (fun x hx => by cases hx) (show (0 : Int) ≤ 0 by omega) (show (0 : Int) ≤ 1000000 by omega) i0 hlen l2 (by rw [pt_len]; exact hs') l3 b0 (show b < 64 by omega)
    have e1 : clai c (pt l i (cw (gt l i) b)) (go1 i 3 b (gt l i)) = (pt l i (cw (gt l i) b), go1 i 2 b 0, false) := clai_no (o := go1 i 3 b (gt l i)) (show gt (pt l i (cw (gt l i) b)) i ≠ gt l i by rw [hg]; exact hne) rfl
    rw [e1] at s1
    refine bnd s1 ?_
    refine cf rfl ?_
    refine cf rfl ?_
    refine bnd (lodgerref02_Same_eq _ _ (by rw [pt_len]; omega)) ?_
    refine cf (by simp) ?_
    have s2 := CStep2_eq (c := c) (l := pt l i (cw (gt l i) b)) (o := go1 i 2 b 0) rfl i0 hlen (by rw [show (go1 i 2 b 0).leaf = i from rfl, hg]; exact hcw) (show (0 : Int) ≤ 0 by omega) (show (0 : Int) ≤ 1000000 by omega)
    have hx := geti_eq (l := pt l i (cw (gt l i) b)) i0 hlen
    rw [hg] at hx
    have fact : ∃ r : List Int × Oq × Bool, claim_Step c (pt l i (cw (gt l i) b)) (go1 i 2 b 0) = some r ∧ (r.2.1.phase = 3 → r.2.1.bit ≠ b ∧ lodgerref01_Has (cw (gt l i) b) r.2.1.bit = some false) := by
      refine ⟨_, s2, fun hp => ?_⟩
      cases q : (fb (cw (gt l i) b) 0 32).2
      · obtain ⟨p, p1, _, o', e2, e3⟩ := look_not (c := c) (l := pt l i (cw (gt l i) b)) (o := go1 i 2 b 0) (by rw [show (go1 i 2 b 0).leaf = i from rfl, hg]; exact q)
        rw [e2] at hp
        exact absurd (e3.symm.trans hp) p1
      · obtain ⟨a1, a2, a3, a4⟩ := fb_yes q
        have e2 := look_yes (c := c) (l := pt l i (cw (gt l i) b)) (o := go1 i 2 b 0) (by rw [show (go1 i 2 b 0).leaf = i from rfl, hg]; exact q)
        rw [show (go1 i 2 b 0).leaf = i from rfl, hg] at e2
        rw [e2]
        have r1 := rHas_eq hcw a1 (show (fb (cw (gt l i) b) 0 32).1 < 64 by omega)
        rw [a3] at r1
        exact ⟨fun e => (by
          have e : (fb (cw (gt l i) b) 0 32).1 = b := e
          rw [e, hbt] at a3; cases a3), r1⟩
    obtain ⟨r, g1, g2⟩ := fact
    refine bnd g1 ?_
    by_cases hp : r.2.1.phase = 3
    · obtain ⟨g3, g4⟩ := g2 hp
      refine cf (bne_eq_false_iff_eq.2 hp) ?_
      refine ct (bne_iff_ne.2 g3) ?_
      refine bnd hx ?_
      exact bnd g4 rfl
    · exact ct (bne_iff_ne.2 hp) rfl
  | succ d ih =>
    intro n k hn h1 h2 h3
    obtain ⟨m, rfl⟩ : ∃ m, n = m + 1 := ⟨n - 1, by omega⟩
    have hy := ih m (k + 1) (by omega) (by omega) (by omega) (by omega)
    rw [su0_lodgerlaw13_ClaimOne]
    unfold lodgerlaw13_ClaimOne_s0
    rw [i64_in (k + 1) (by omega)]
    refine ct (decide_eq_true (by omega)) ?_
    by_cases a : k = i
    · refine cf (bne_eq_false_iff_eq.2 a) ?_
      exact hy
    · refine ct (bne_iff_ne.2 a) ?_
      refine bnd (geti_eq h1 (by rw [pt_len]; omega)) ?_
      refine bnd (geti_eq h1 (by omega)) ?_
      refine cf (bne_eq_false_iff_eq.2 ?_) hy
      rw [gt_pt h1 (by omega) i0, if_neg (fun e => a e.symm)]
end
theorem pure_ClaimOne (c : Conf) (l : List Int) (a : Int) (hc : WfV E (.st 1) c) (hl : WfV E (.slice u64) l) (ha : WfV E (.int .u16) a) : lodgerlaw13_ClaimOne c l a = some true := by
  have wc := v_conf hc
  obtain ⟨bb, e, hb⟩ := rFits_eq wc (v_u64s hl)
  have ⟨f1, f2⟩ := v_int (k := .u16) ha
  change 0 ≤ a at f1; change a ≤ 65535 at f2
  unfold lodgerlaw13_ClaimOne lodgerlaw13_ClaimOne_n lodgerlaw13_ClaimOne_e
  refine bnd awake13 ?_
  refine cf rfl ?_
  refine bnd e ?_
  cases bb
  · exact ct rfl (bnd awake13 rfl)
  refine cf rfl ?_
  have fit := hb rfl
  have hm := many_b fit.ok.blk
  have hL := leaves_b hm.1 hm.2
  refine bnd (rMany_eq fit.ok.blk) ?_
  have el : IntKind.i64.wrap (1 + IntKind.i64.wrap ((IntKind.i64.wrap (many c.block - 1)).tdiv 32)) = leaves (many c.block) := by
    rw [i64_in (many c.block - 1) (by omega), i64_quo _ _ (by omega), i64_in _ (by omega)]
    unfold leaves; omega
  obtain ⟨i1, i2, i3⟩ := leaf_in fit.ok.blk f1 f2
  simp only [el, i1]
  generalize a % leaves (many c.block) = i at *
  obtain ⟨l1, l2, l3⟩ := fit.leaf i2 i3
  have ub := wc.block.base
  have hs' := fit.small
  refine cf (beq_eq_false_iff_ne.2 (by omega)) ?_
  refine bnd (geti_eq i2 l1) ?_
  refine bnd (First_eq l3) ?_
  have s1 := CStep2_eq (c := c) (l := l) (o := go1 i 2 0 0) rfl i2 l1 l3 (show (0 : Int) ≤ 0 by omega) (show (0 : Int) ≤ 1000000 by omega)
  refine bnd s1 ?_
  cases q : (fb (gt l i) 0 32).2
  · obtain ⟨p, p1, _, o', e2, e3⟩ := look_not (c := c) (l := l) (o := go1 i 2 0 0) q
    rw [e2]
    refine cf (show (!(false == (o'.phase == 3))) = false by rw [beq_eq_false_iff_ne.2 (show o'.phase ≠ 3 by rw [e3]; exact p1)]; rfl) ?_
    exact ct rfl rfl
  · obtain ⟨a1, a2, a3, a4⟩ := fb_yes q
    rw [look_yes (c := c) (l := l) (o := go1 i 2 0 0) q, show (go1 i 2 0 0).leaf = i from rfl]
    refine cf rfl ?_
    refine cf rfl ?_
    generalize hbb : (fb (gt l i) 0 32).1 = b at *
    have eo : IntKind.i64.wrap (IntKind.i64.wrap (32 * i) + b) = 32 * i + b := by rw [i64_in (32 * i) (by omega), i64_in _ (by omega)]
    rw [eo, ad_eq]
    by_cases hin : 32 * i + b ≥ many c.block
    · exact ct (decide_eq_true hin) rfl
    refine cf (decide_eq_false hin) ?_
    have s2 := CStep3_eq (c := c) (l := l) (o := go1 i 3 b (gt l i)) rfl fit.ok.blk ub (fun x hx => by cases hx) (show (0 : Int) ≤ 0 by omega) (show (0 : Int) ≤ 1000000 by omega) i2 l1 l2 hs' l3 a1 (show b < 64 by omega)
    refine bnd s2 ?_
    have hcw := cw_u (gt l i) b
    have hg : gt (pt l i (cw (gt l i) b)) i = cw (gt l i) b := by rw [gt_pt i2 l1 i2, if_pos rfl]
    have hx := geti_eq (l := pt l i (cw (gt l i) b)) i2 (by rw [pt_len]; exact l1)
    rw [hg] at hx
    have hbt : hs (cw (gt l i) b) b = true := by rw [hs_cw l3 a1 (by omega) a1 a2]; simp
    have fin := CO_l fit ub i2 i3 a1 a2 a3 l.length big 0 (big_lt (by omega)) (by omega) (by omega) (by omega)
    have hu := Full_eq hcw
    have r1 := rHas_eq hcw a1 (show b < 64 by omega)
    rw [hbt] at r1
    cases hf : ful (cw (gt l i) b)
    · rw [hf] at hu
      have e5 := clai_not (c := c) (l := l) (o := go1 i 3 b (gt l i)) rfl hf
      rw [got_go1, goes_no (show (1 : Int) ≠ 4 by decide)] at e5
      rw [e5]
      refine cf rfl ?_
      refine cf (bne_eq_false_iff_eq.2 (show ad c (32 * i + b) = ad c (32 * i + b) from rfl)) ?_
      refine bnd hx ?_
      refine bnd r1 ?_
      refine cf rfl ?_
      refine bnd hx ?_
      refine bnd hu ?_
      exact cf rfl fin
    · rw [hf] at hu
      have e5 := clai_ful (c := c) (l := l) (o := go1 i 3 b (gt l i)) rfl hf
      rw [got_go1] at e5
      rw [e5]
      refine cf rfl ?_
      refine cf (bne_eq_false_iff_eq.2 (show ad c (32 * i + b) = ad c (32 * i + b) from rfl)) ?_
      refine bnd hx ?_
      refine bnd r1 ?_
      refine cf rfl ?_
      refine bnd hx ?_
      refine bnd hu ?_
      exact cf rfl fin
end
end Go.Lv.Ld
