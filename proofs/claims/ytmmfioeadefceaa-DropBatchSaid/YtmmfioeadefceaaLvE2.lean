import Derived.Test.YtmmfioeadefceaaLvE1
namespace Go.Lv.Ld
set_option linter.all false
noncomputable section
open Go Go.Lv Go.IntWalk
theorem ds_t {c : Conf} {l : List Int} {o : Oq} (p : o.phase = 8) (h : hs (gt l o.leaf) o.bit = true) : dstep c l o = (l, { o with phase := 9, word := gt l o.leaf }, false) := by unfold dstep; rw [if_pos p, if_pos h]
theorem ds_f {c : Conf} {l : List Int} {o : Oq} (p : o.phase = 8) (h : hs (gt l o.leaf) o.bit = false) : dstep c l o = (l, goes c (told o 6), true) := by unfold dstep; rw [if_pos p, if_neg (by rw [h]; simp)]
theorem ds_n {c : Conf} {l : List Int} {o : Oq} (p : o.phase ≠ 8) (h : gt l o.leaf ≠ o.word) : dstep c l o = (l, { o with phase := 8, word := 0 }, false) := by unfold dstep; rw [if_neg p, if_neg h]
theorem ds_m {c : Conf} {l : List Int} {o : Oq} (p : o.phase ≠ 8) (h : gt l o.leaf = o.word) (f : ful o.word = true) : dstep c l o = (pt l o.leaf (dw o.word o.bit), { told o 0 with phase := 4, word := 0, full := false, at_ := 0 }, true) := by unfold dstep; rw [if_neg p, if_pos h, if_pos f]
theorem ds_g {c : Conf} {l : List Int} {o : Oq} (p : o.phase ≠ 8) (h : gt l o.leaf = o.word) (f : ful o.word = false) : dstep c l o = (pt l o.leaf (dw o.word o.bit), goes c { told o 0 with word := 0 }, true) := by unfold dstep; rw [if_neg p, if_pos h, if_neg (by rw [f]; simp)]
theorem pure_DropKeeps (c : Conf) (l : List Int) (o : Oq) (hc : WfV E (.st 1) c) (hl : WfV E (.slice u64) l) (ho : WfV E (.st 4) o) : lodgerlaw14_DropKeeps c l o = some true := by
  have wc := v_conf hc
  have wo := v_op ho
  obtain ⟨b, e, hb⟩ := rFits13_eq wc (v_u64s hl) wo
  unfold lodgerlaw14_DropKeeps
  refine bnd awake14 ?_
  refine cf rfl ?_
  refine bnd e ?_
  cases b
  · exact ct rfl (bnd awake14 rfl)
  obtain ⟨fit, w⟩ := hb rfl
  refine cf rfl ?_
  obtain ⟨g, eg⟩ : ∃ g, lodgerlaw14_gives o = some g := by
    unfold lodgerlaw14_gives
    cases (o.ask.kind == 3) <;> cases (o.phase == 8) <;> cases (o.ask.kind == 4) <;> exact ⟨_, rfl⟩
  refine bnd eg ?_
  cases g
  · exact ct rfl (bnd awake14 rfl)
  refine cf rfl ?_
  have le := w.le
  have hs := fit.small
  have hm : l.length ≤ maxList := hs
  have tk : (((o.answer.errs ++ ([77] : List Int)).take (Int.toNat (List.length o.answer.errs : Int))).drop (Int.toNat 0)) = o.answer.errs := by simp
  have hst := DStep_eq fit wc.block.base wo.ask.addrs.2 w.item0 (by have := w.item1; omega) wo.word w.leaf0 w.leaf1 w.bit0 (by have := w.bit1; omega) (by omega)
  have ob : okBounds ((o.answer.errs ++ ([77] : List Int)).length : Int) 0 (List.length o.answer.errs : Int) none = true := by
    unfold okBounds
    rw [decide_eq_true (by simp only [List.length_append, List.length_cons, List.length_nil]; omega)]; rfl
  rw [tk]
  refine ct (decide_eq_true hm) ?_
  refine ct (decide_eq_true (by unfold maxList; omega)) ?_
  refine ct (decide_eq_true (by unfold maxList; simp only [List.length_cons, List.length_nil]; omega)) ?_
  refine ct ob ?_
  refine bnd hst ?_
  refine bnd ((lodgerref02_Same_eq l l (by omega)).trans (by simp)) (?_ : (bif true then _ else _) = _)
  refine ct rfl ?_
  refine ct ob ?_
  refine bnd ((lodgerref08_Errs_eq o.answer.errs o.answer.errs (by omega)).trans (by simp)) (?_ : (bif true then _ else _) = _)
  refine ct rfl ?_
  refine ct (decide_eq_true (by simp only [List.length_append, List.length_cons, List.length_nil]; omega)) ?_
  exact bnd (a := 77) (by simp) rfl
theorem cl_hi {w b : Int} (hw : U64 w) (hb : 0 ≤ b) (h : b < 32) : cl w b / 4294967296 = w / 4294967296 := by
  have key : (cl w b).toNat / 2 ^ 32 = w.toNat / 2 ^ 32 := by
    apply Nat.eq_of_testBit_eq
    intro i
    rw [← Nat.shiftRight_eq_div_pow, ← Nat.shiftRight_eq_div_pow, Nat.testBit_shiftRight, Nat.testBit_shiftRight]
    have := hs_cl hw hb (j := ((32 + i : Nat) : Int)) (by omega)
    rw [hs_eq, hs_eq, Int.toNat_natCast, decide_eq_false (by omega)] at this
    simpa using this
  have h1 := (@cl_u w b hw).1
  have h2 := hw.1
  omega
theorem dw_hi {w b : Int} (hw : U64 w) (hb : 0 ≤ b) (h : b < 32) : dw w b / 4294967296 = (w / 4294967296 + 1) % 4294967296 := by
  have e := cl_hi hw hb h
  have u := @cl_u w b hw
  unfold dw
  unfold U64 at *
  omega
theorem Changes_eq {w : Int} (hw : U64 w) : word_Changes w = some (w / 4294967296) := by
  unfold word_Changes shr
  have e : (2 : Int) ^ (min (Int.toNat 32) IntKind.u64.bits) = 4294967296 := by decide
  have e2 : w.fdiv 4294967296 = w / 4294967296 := Int.fdiv_eq_ediv_of_nonneg w (by omega)
  rw [e, e2]
  congr 1
  unfold U64 at hw
  exact u32_in _ (by omega)
/-- A release that begins at an offset. -/
def ro (i : Int) : Oq := ⟨⟨3, 0, []⟩, ⟨0, 0, false, [], []⟩, 8, 0, 0, i / 32, i % 32, 0, false, [], 0, 0, 0, 0⟩
theorem DO_l (c : Conf) (ub : U32 c.block.base) (l : List Int) (fit : Fit c l) (i : Int) (i0 : 0 ≤ i) (i1 : i < many c.block) (hb : hs (gt l (i / 32)) (i % 32) = true) : ∀ (d n : Nat) (k : Int), d < n → 0 ≤ k → ((l.length : Int) - k).toNat = d → k ≤ l.length →
    lodgerlaw14_DropOne_l0 n l i (pt l (i / 32) (dw (gt l (i / 32)) (i % 32))) k c { ro i with phase := 9, word := gt l (i / 32) } = some true := by
  have hm := many_b fit.ok.blk
  have hL := leaves_b hm.1 hm.2
  obtain ⟨l1, l2, l3⟩ := fit.leaf (i := i / 32) (by omega) (by omega)
  have hs' := fit.small
  have fit2 := fit.pt (i / 32) (dw_u (gt l (i / 32)) (i % 32))
  have lp : (pt l (i / 32) (dw (gt l (i / 32)) (i % 32))).length = l.length := pt_len _ _ _
  have gp : gt (pt l (i / 32) (dw (gt l (i / 32)) (i % 32))) (i / 32) = dw (gt l (i / 32)) (i % 32) := by rw [gt_pt (by omega) l1 (by omega), if_pos rfl]
  have gq : ∀ k, 0 ≤ k → k < (l.length : Int) → k ≠ i / 32 → gt (pt l (i / 32) (dw (gt l (i / 32)) (i % 32))) k = gt l k := fun k k0 k1 h => by rw [gt_pt k0 k1 (by omega), if_neg (fun e => h e.symm)]
  have hf : hs (dw (gt l (i / 32)) (i % 32)) (i % 32) = false := by rw [hs_dw l3 (by omega) (by omega) (by omega) (by omega)]; simp
  generalize pt l (i / 32) (dw (gt l (i / 32)) (i % 32)) = x at *
  have hne : gt x (i / 32) ≠ gt l (i / 32) := by
    intro e
    rw [← e, gp, hf] at hb
    cases hb
  intro d
  induction d with
  | zero =>
    intro n k hn h1 h2 h3
    obtain ⟨m, rfl⟩ : ∃ m, n = m + 1 := ⟨n - 1, by omega⟩
    have s1 := DStep_eq (o := { ro i with phase := 9, word := gt l (i / 32) }) fit2 ub (by intro x hx; cases hx) (Int.le_refl 0) (show (0 : Int) ≤ 1000000 by decide) l3 (show 0 ≤ i / 32 by omega) (show i / 32 < _ by omega) (show 0 ≤ i % 32 by omega) (show i % 32 < 32 by omega) (by simp [ro])
    have e1 : dstep c x { ro i with phase := 9, word := gt l (i / 32) } = (x, { ro i with phase := 8, word := 0 }, false) := ds_n (show (9 : Int) ≠ 8 by decide) hne
    rw [e1] at s1
    have s2 := DStep_eq (o := { ro i with phase := 8, word := 0 }) fit2 ub (by intro x hx; cases hx) (Int.le_refl 0) (show (0 : Int) ≤ 1000000 by decide) (by unfold U64; simp) (show 0 ≤ i / 32 by omega) (show i / 32 < _ by omega) (show 0 ≤ i % 32 by omega) (show i % 32 < 32 by omega) (by simp [ro])
    have e2 : dstep c x { ro i with phase := 8, word := 0 } = (x, goes c (told { ro i with phase := 8, word := 0 } 6), true) := ds_f rfl (show hs (gt x (i / 32)) (i % 32) = false by rw [gp]; exact hf)
    rw [e2] at s2
    rw [su0_lodgerlaw14_DropOne]
    unfold lodgerlaw14_DropOne_s0
    refine cf (decide_eq_false (by omega)) ?_
    refine bnd s1 ?_
    refine bnd s2 ?_
    refine ct rfl ?_
    refine ct rfl ?_
    refine bnd ((lodgerref02_Same_eq x x (by omega)).trans (by simp)) (?_ : (bif true then _ else _) = _)
    refine ct rfl ?_
    refine ct rfl ?_
    rfl
  | succ d ih =>
    intro n k hn h1 h2 h3
    obtain ⟨m, rfl⟩ : ∃ m, n = m + 1 := ⟨n - 1, by omega⟩
    have hk : k < (l.length : Int) := by omega
    rw [su0_lodgerlaw14_DropOne]
    unfold lodgerlaw14_DropOne_s0
    rw [i64_in (k + 1) (by omega), i64_quo i 32 (by omega)]
    have ih := ih m (k + 1) (by omega) (by omega) (by omega) (by omega)
    refine ct (decide_eq_true hk) ?_
    by_cases q : k = i / 32
    · exact cf (bne_eq_false_iff_eq.2 q) ih
    · refine ct (bne_iff_ne.2 q) ?_
      refine bnd (geti_eq h1 (by omega)) ?_
      refine bnd (geti_eq h1 hk) ?_
      exact cf (bne_eq_false_iff_eq.2 (gq k h1 hk q)) ih
theorem pure_DropOne (c : Conf) (l : List Int) (a : Int) (hc : WfV E (.st 1) c) (hl : WfV E (.slice u64) l) (ha : WfV E (.int .u16) a) : lodgerlaw14_DropOne c l a = some true := by
  have wc := v_conf hc
  obtain ⟨b, e, hb⟩ := rFits_eq wc (v_u64s hl)
  have ⟨f1, f2⟩ := v_int (k := .u16) ha
  change 0 ≤ a at f1; change a ≤ 65535 at f2
  unfold lodgerlaw14_DropOne lodgerlaw14_DropOne_n lodgerlaw14_DropOne_e
  refine bnd awake14 ?_
  refine cf rfl ?_
  refine bnd e ?_
  cases b
  · exact ct rfl (bnd awake14 rfl)
  have fit := hb rfl
  have hm := many_b fit.ok.blk
  have hL := leaves_b hm.1 hm.2
  refine cf rfl ?_
  refine bnd (rMany_eq fit.ok.blk) ?_
  refine cf (beq_eq_false_iff_ne.2 (by omega)) ?_
  rw [i64_in a (by omega), Int.tmod_eq_emod_of_nonneg f1]
  have i0 : 0 ≤ a % many c.block := Int.emod_nonneg _ (by omega)
  have i1 : a % many c.block < many c.block := Int.emod_lt_of_pos _ (by omega)
  generalize a % many c.block = i at *
  rw [i64_quo i 32 (by omega), Int.tmod_eq_emod_of_nonneg i0]
  obtain ⟨l1, l2, l3⟩ := fit.leaf (i := i / 32) (by omega) (by omega)
  have hs' := fit.small
  have s1 := DStep_eq (o := ro i) fit wc.block.base (by intro x hx; cases hx) (Int.le_refl 0) (show (0 : Int) ≤ 1000000 by decide) (show U64 (0 : Int) by unfold U64; simp) (show 0 ≤ i / 32 by omega) (show i / 32 < _ by omega) (show 0 ≤ i % 32 by omega) (show i % 32 < 32 by omega) (by simp [ro])
  cases hh : hs (gt l (i / 32)) (i % 32)
  · have e1 : dstep c l (ro i) = (l, goes c (told (ro i) 6), true) := ds_f rfl hh
    rw [e1] at s1
    refine bnd s1 ?_
    refine bnd (geti_eq (by omega) l1) ?_
    refine bnd ((rHas_eq l3 (by omega) (by omega)).trans (congrArg some hh)) ?_
    refine ct rfl ?_
    refine ct rfl ?_
    refine ct rfl ?_
    rfl
  · have e1 : dstep c l (ro i) = (l, { ro i with phase := 9, word := gt l (i / 32) }, false) := ds_t rfl hh
    rw [e1] at s1
    have s2 := DStep_eq (o := { ro i with phase := 9, word := gt l (i / 32) }) fit wc.block.base (by intro x hx; cases hx) (Int.le_refl 0) (show (0 : Int) ≤ 1000000 by decide) l3 (show 0 ≤ i / 32 by omega) (show i / 32 < _ by omega) (show 0 ≤ i % 32 by omega) (show i % 32 < 32 by omega) (by simp [ro])
    have gp : gt (pt l (i / 32) (dw (gt l (i / 32)) (i % 32))) (i / 32) = dw (gt l (i / 32)) (i % 32) := by rw [gt_pt (by omega) l1 (by omega), if_pos rfl]
    have lp : (pt l (i / 32) (dw (gt l (i / 32)) (i % 32))).length = l.length := pt_len _ _ _
    have hf : hs (dw (gt l (i / 32)) (i % 32)) (i % 32) = false := by rw [hs_dw l3 (by omega) (by omega) (by omega) (by omega)]; simp
    obtain ⟨q, eq, q1, q2⟩ : ∃ q, dstep c l { ro i with phase := 9, word := gt l (i / 32) } = (pt l (i / 32) (dw (gt l (i / 32)) (i % 32)), q, true) ∧ q.answer.err = 0 ∧ (q.phase == 4) = ful (gt l (i / 32)) := by
      cases hfu : ful (gt l (i / 32))
      · exact ⟨_, ds_g (show (9 : Int) ≠ 8 by decide) rfl hfu, rfl, rfl⟩
      · exact ⟨_, ds_m (show (9 : Int) ≠ 8 by decide) rfl hfu, rfl, rfl⟩
    rw [eq] at s2
    refine bnd s1 ?_
    refine bnd (geti_eq (by omega) l1) ?_
    refine bnd ((rHas_eq l3 (by omega) (by omega)).trans (congrArg some hh)) ?_
    refine cf rfl ?_
    refine bnd s2 ?_
    refine cf rfl ?_
    refine cf rfl ?_
    refine cf rfl ?_
    refine cf (bne_eq_false_iff_eq.2 q1) ?_
    refine bnd (geti_eq (by omega) (by rw [lp]; exact l1)) ?_
    rw [gp]
    refine bnd ((rHas_eq (dw_u _ _) (by omega) (by omega)).trans (congrArg some hf)) ?_
    refine cf rfl ?_
    refine bnd (geti_eq (by omega) l1) ?_
    refine bnd (Full_eq l3) ?_
    refine cf (by rw [q2]; simp) ?_
    refine bnd (geti_eq (by omega) (by rw [lp]; exact l1)) ?_
    rw [gp]
    refine bnd (Changes_eq (dw_u _ _)) ?_
    refine bnd (geti_eq (by omega) l1) ?_
    refine bnd (Changes_eq l3) ?_
    refine cf (bne_eq_false_iff_eq.2 ?_) ?_
    · rw [dw_hi l3 (by omega) (by omega)]; rfl
    · exact DO_l c wc.block.base l fit i i0 i1 hh l.length big 0 (big_lt (by omega)) (by omega) (by omega) (by omega)
end
end Go.Lv.Ld
