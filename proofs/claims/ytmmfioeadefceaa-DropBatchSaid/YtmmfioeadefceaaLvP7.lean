import Derived.Test.YtmmfioeadefceaaLvP6
namespace Go.Lv.Ld
set_option linter.all false
noncomputable section
open Go Go.Lv Go.IntWalk

/-- An operation of no batch that marks. -/
def mo (i : Int) (full : Bool) (p at_ w : Int) : Oq := ⟨⟨0, 0, []⟩, ⟨0, 0, false, [], []⟩, p, 0, 0, i, 0, w, full, [], at_, 0, 0, 0⟩
theorem goes_mo (c : Conf) (i : Int) (f : Bool) (p a w : Int) : goes c (mo i f p a w) = mo i false 0 0 0 := by unfold goes mo; simp
theorem don_mo0 (c : Conf) (i : Int) (f : Bool) (p w : Int) : don c (mo i f p 0 w) = if f = true ∧ w ≠ 18446744073709551615 then mo i false 0 0 0 else mo i f 4 1 w := by
  unfold don
  rw [goes_mo]
  unfold mo
  simp
theorem don_mo1 (c : Conf) (i : Int) (f : Bool) (p w : Int) : don c (mo i f p 1 w) = mo i false 0 0 0 := by
  unfold don
  rw [goes_mo]
  unfold mo
  simp
def topc (c : Conf) (i : Int) : Int := leaves (many c.block) + i / 64
def rootc (c : Conf) : Int := leaves (many c.block) + tops (many c.block)
theorem step_mo40 (c : Conf) (l : List Int) (i : Int) (f : Bool) (w : Int) : hstep c l (mo i f 4 0 w) = if hs (gt l (topc c i)) (i % 64) = f then (l, don c (mo i f 4 0 (gt l (topc c i)))) else (l, mo i f 5 0 (gt l (topc c i))) := by
  unfold hstep mo wh topc; simp
theorem step_mo50 (c : Conf) (l : List Int) (i : Int) (f : Bool) (w : Int) : hstep c l (mo i f 5 0 w) = (if gt l (topc c i) = w then pt l (topc c i) (if f then st w (i % 64) else cl w (i % 64)) else l, don c (mo i f 5 0 (if f then st w (i % 64) else cl w (i % 64)))) := by
  unfold hstep mo wh topc; simp
theorem step_mo41 (c : Conf) (l : List Int) (i : Int) (f : Bool) (w : Int) : hstep c l (mo i f 4 1 w) = if hs (gt l (rootc c)) (i / 64) = f then (l, mo i false 0 0 0) else (l, mo i f 5 1 (gt l (rootc c))) := by
  rw [← don_mo1 c i f 4 (gt l (rootc c))]
  unfold hstep mo wh rootc; simp
theorem step_mo51 (c : Conf) (l : List Int) (i : Int) (f : Bool) (w : Int) : hstep c l (mo i f 5 1 w) = (if gt l (rootc c) = w then pt l (rootc c) (if f then st w (i / 64) else cl w (i / 64)) else l, mo i false 0 0 0) := by
  rw [← don_mo1 c i f 5 (if f then st w (i / 64) else cl w (i / 64))]
  unfold hstep mo wh rootc; simp
theorem cells_b {c : Conf} {l : List Int} (hf : Fit c l) {i : Int} (h0 : 0 ≤ i) (h1 : i < leaves (many c.block)) : 0 ≤ topc c i ∧ topc c i < rootc c ∧ rootc c < (l.length : Int) ∧ 0 ≤ i % 64 ∧ i % 64 < 64 ∧ 0 ≤ i / 64 ∧ i / 64 < 64 := by
  have hm := many_b hf.ok.blk
  have ha := leaves_b hm.1 hm.2; have hb := tops_b hm.1 hm.2
  have hl := hf.len
  unfold cellsN at hl
  unfold topc rootc; omega
theorem Fit.pt {c : Conf} {l : List Int} (hf : Fit c l) (i : Int) {w : Int} (hw : U64 w) : Fit c (pt l i w) := ⟨hf.ok, hf.few, by rw [pt_len]; exact hf.len, pt_u U64 hf.u hw⟩
theorem Step_mo {c : Conf} {l : List Int} (hf : Fit c l) (hb : U32 c.block.base) {i : Int} (h0 : 0 ≤ i) (h1 : i < leaves (many c.block)) (f : Bool) (p : Int) {a w : Int} (hw : U64 w) (a0 : 0 ≤ a) (a1 : a ≤ 1) : hint_Step c l (mo i f p a w) = some (hstep c l (mo i f p a w)) :=
  Step_eq hf hb (fun x hx => by cases hx) (show (0 : Int) ≤ 0 by omega) (show (0 : Int) ≤ 1000000 by omega) hw h0 h1 a0 a1
theorem to_u {w i : Int} (hw : U64 w) (hi : 0 ≤ i) (h : i < 64) (f : Bool) : U64 (if f then st w i else cl w i) := by
  cases f
  · exact cl_u hw
  · exact st_u hw hi h
theorem leaf_in {c : Conf} (ok : OKb c.block) {x : Int} (h0 : 0 ≤ x) (h : x ≤ 65535) : (IntKind.i64.wrap x).tmod (leaves (many c.block)) = x % leaves (many c.block) ∧ 0 ≤ x % leaves (many c.block) ∧ x % leaves (many c.block) < leaves (many c.block) := by
  have hm := many_b ok
  have ha := leaves_b hm.1 hm.2
  rw [i64_in _ (by omega), Int.tmod_eq_emod_of_nonneg h0]
  exact ⟨rfl, Int.emod_nonneg _ (by omega), Int.emod_lt_of_pos _ (by omega)⟩
theorem big3 : big = 4611686018427387900 + 1 + 1 + 1 + 1 := rfl
theorem pure_HintLost (c : Conf) (l : List Int) (a : Int) (f : Bool) (w : Int) (hc : WfV E (.st 1) c) (hl : WfV E (.slice u64) l) (ha : WfV E (.int .u16) a) (hF : WfV E .bool f) (hW : WfV E u64 w) : lodgerlaw08_HintLost c l a f w = some true := by
  have wc := v_conf hc
  have hw : U64 w := v_int (k := .u64) hW
  obtain ⟨b, e, hb⟩ := rFits_eq wc (v_u64s hl)
  have ⟨f1, f2⟩ := v_int (k := .u16) ha
  change 0 ≤ a at f1; change a ≤ 65535 at f2
  unfold lodgerlaw08_HintLost lodgerlaw08_HintLost_n lodgerlaw08_HintLost_e
  rw [awake08, e]
  cases b
  · rfl
  have fit := hb rfl
  have hm := many_b fit.ok.blk
  have hL := leaves_b hm.1 hm.2
  obtain ⟨i1, i2, i3⟩ := leaf_in fit.ok.blk f1 f2
  have ub := wc.block.base
  simp only [Option.bind_some, Bool.not_true, cond_false, rMany_eq fit.ok.blk, rLeaves_eq hm.1 hm.2, i1, rTop_eq hm.1 hm.2 i2 (show a % leaves (many c.block) ≤ 2048 by omega)]
  generalize a % leaves (many c.block) = i at *
  have hz : (leaves (many c.block) == 0) = false := beq_eq_false_iff_ne.2 (by omega)
  rw [hz, cond_false]
  obtain ⟨t1, t2, t3, t4, t5, t6, t7⟩ := cells_b fit i2 i3
  have z : U64 0 := by unfold U64; omega
  have s1 := Step_mo fit ub i2 i3 f 4 (a := 0) (w := 0) z (by omega) (by omega)
  rw [show (⟨⟨0, 0, []⟩, ⟨0, 0, false, [], []⟩, 4, 0, 0, i, 0, 0, f, [], 0, 0, 0, 0⟩ : Oq) = mo i f 4 0 0 from rfl, s1, step_mo40]
  have hx := geti_eq (l := l) t1 (show topc c i < (l.length : Int) by omega)
  have gu := fit.u _ (gt_mem (l := l) t1 (show topc c i < (l.length : Int) by omega))
  by_cases q : hs (gt l (topc c i)) (i % 64) = f
  · rw [if_pos q]
    simp only [Option.bind_some]
    rw [don_mo0]
    split <;> rfl
  rw [if_neg q]
  simp only [Option.bind_some, show (mo i f 5 0 (gt l (topc c i))).phase = 5 from rfl, bne_self_eq_false, cond_false, show leaves (many c.block) + i / 64 = topc c i from rfl, hx]
  by_cases r : w = gt l (topc c i)
  · rw [show (w == gt l (topc c i)) = true from beq_iff_eq.2 r]; rfl
  have hs : l.length ≤ maxList := fit.small
  have fit2 := fit.pt (topc c i) hw
  have s2 := Step_mo fit2 ub i2 i3 f 5 (a := 0) gu (by omega) (by omega)
  have g2 : gt (pt l (topc c i) w) (topc c i) = w := by rw [gt_pt t1 (by omega) t1, if_pos rfl]
  have hg2 := geti_eq (l := pt l (topc c i) w) t1 (show topc c i < ((pt l (topc c i) w).length : Int) by rw [pt_len]; omega)
  rw [g2] at hg2
  rw [show (w == gt l (topc c i)) = false from beq_eq_false_iff_ne.2 r, cond_false, r2Set_eq hs, Option.bind_some, s2, step_mo50, g2, if_neg r]
  simp only [Option.bind_some, hg2, bne_self_eq_false, cond_false]
  have tu := to_u gu t4 t5 f
  rw [don_mo0]
  generalize (if f then st (gt l (topc c i)) (i % 64) else cl (gt l (topc c i)) (i % 64)) = v at *
  have du := hw
  rw [big3, su0_lodgerlaw08_HintLost]
  unfold lodgerlaw08_HintLost_s0
  by_cases d : f = true ∧ v ≠ 18446744073709551615
  · rw [if_pos d]
    simp only [show (mo i false 0 0 0).phase = 0 from rfl, bne_self_eq_false, beq_self_eq_true, cond_true, cond_false, hg2, Option.bind_some, show decide ((0 : Int) < 2) = true from rfl]
  rw [if_neg d]
  have s3 := Step_mo fit2 ub i2 i3 f 4 (a := 1) tu (by omega) (by omega)
  have gr2 := fit2.u _ (gt_mem (l := pt l (topc c i) w) (i := rootc c) (by omega) (by rw [pt_len]; omega))
  simp only [show (mo i f 4 1 v).phase = 4 from rfl, show ((4 : Int) != 0) = true from rfl, cond_true, show decide ((0 : Int) < 2) = true from rfl, s3, step_mo41, Option.bind_some, show IntKind.i64.wrap (0 + 1) = 1 from i64_in _ (by omega)]
  rw [su0_lodgerlaw08_HintLost]
  unfold lodgerlaw08_HintLost_s0
  by_cases d2 : Go.Lv.Ld.hs (gt (pt l (topc c i) w) (rootc c)) (i / 64) = f
  · rw [if_pos d2]
    simp only [show (mo i false 0 0 0).phase = 0 from rfl, bne_self_eq_false, beq_self_eq_true, cond_true, cond_false, hg2, Option.bind_some, show decide ((1 : Int) < 2) = true from rfl]
  rw [if_neg d2]
  have s4 := Step_mo fit2 ub i2 i3 f 5 (a := 1) gr2 (by omega) (by omega)
  simp only [show (mo i f 5 1 (gt (pt l (topc c i) w) (rootc c))).phase = 5 from rfl, show ((5 : Int) != 0) = true from rfl, cond_true, show decide ((1 : Int) < 2) = true from rfl, s4, step_mo51, Option.bind_some, show IntKind.i64.wrap (1 + 1) = 2 from i64_in _ (by omega), if_true]
  rw [su0_lodgerlaw08_HintLost]
  unfold lodgerlaw08_HintLost_s0
  have tu2 := to_u gr2 t6 t7 f
  generalize (if f then st (gt (pt l (topc c i) w) (rootc c)) (i / 64) else cl (gt (pt l (topc c i) w) (rootc c)) (i / 64)) = v2 at *
  have hg3 := geti_eq (l := pt (pt l (topc c i) w) (rootc c) v2) t1 (show topc c i < ((pt (pt l (topc c i) w) (rootc c) v2).length : Int) by rw [pt_len, pt_len]; omega)
  rw [gt_pt t1 (by rw [pt_len]; omega) (by omega), if_neg (by omega), g2] at hg3
  simp only [show decide ((2 : Int) < 2) = false from rfl, cond_false, show (mo i false 0 0 0).phase = 0 from rfl, beq_self_eq_true, cond_true, hg3, Option.bind_some]
end
end Go.Lv.Ld
