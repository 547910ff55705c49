import Derived.Test.YtmmfioeadefceaaDoorLvX4
namespace Go.Lv.Ld
set_option linter.all false
noncomputable section
open Go Go.Lv Go.IntWalk
theorem Right.re {c : Conf} {a : Ask} (r : Right c a) (k : Int) (hk : k = 2 ∨ k = 5) : Right c ⟨k, a.addr, []⟩ := ⟨r.ok, r.few, hk, by simp, r.ins, r.free⟩
theorem wask {k x : Int} (hk : k = 2 ∨ k = 5) (hx : U32 x) : WAsk ⟨k, x, []⟩ := ⟨by unfold I64; simp only; omega, hx, ⟨by simp, fun x hx => by cases hx⟩⟩
theorem xs_q {c : Conf} {l : List Int} {o : Oq} (p : o.phase = 8) (k : o.ask.kind = 5) : xstep c l o = (l, { o with answer := ⟨o.answer.err, o.answer.addr, hs (gt l o.leaf) o.bit, o.answer.addrs, o.answer.errs⟩, phase := 0 }, true) := by
  unfold xstep; rw [if_neg (by omega), if_pos p, if_pos k]
theorem xs_u {c : Conf} {l : List Int} {o : Oq} (p : o.phase = 8) (k : o.ask.kind ≠ 5) (h : hs (gt l o.leaf) o.bit = true) : xstep c l o = (l, { o with answer := ⟨5, o.answer.addr, o.answer.used, o.answer.addrs, o.answer.errs⟩, phase := 0 }, true) := by
  unfold xstep; rw [if_neg (by omega), if_pos p, if_neg k, if_pos h]
theorem xs_f {c : Conf} {l : List Int} {o : Oq} (p : o.phase = 8) (k : o.ask.kind ≠ 5) (h : hs (gt l o.leaf) o.bit = false) : xstep c l o = (l, { o with phase := 3, word := gt l o.leaf }, false) := by
  unfold xstep; rw [if_neg (by omega), if_pos p, if_neg k, if_neg (by rw [h]; simp)]
theorem xs_3 {c : Conf} {l : List Int} {o : Oq} (p : o.phase = 3) : xstep c l o = clai c l o := by
  unfold xstep; rw [if_neg (by omega), if_neg (by omega), if_pos p]
theorem xs_m {c : Conf} {l : List Int} {o : Oq} (p : o.phase = 4 ∨ o.phase = 5) : xstep c l o = ((hstep c l o).1, (hstep c l o).2, false) := by
  unfold xstep; rw [if_neg (by omega), if_neg (by omega), if_neg (by omega)]
theorem xs_0 {c : Conf} {l : List Int} {o : Oq} (p : o.phase = 0) : xstep c l o = (l, o, false) := by
  unfold xstep; rw [if_pos p]
section
variable {c : Conf} {x : Int} (ub : U32 c.block.base) (hx : U32 x) (r : Right c ⟨2, x, []⟩)
include ub hx r
theorem off_b2 : 0 ≤ x - c.block.base ∧ x - c.block.base < many c.block ∧ 0 ≤ (x - c.block.base) / 32 ∧ (x - c.block.base) / 32 < leaves (many c.block) := by
  have hm := many_b r.ok.blk
  have hL := leaves_b hm.1 hm.2
  have hi := r.ins
  unfold ins at hi
  simp only at hi
  omega
/-- A question behind it, and another grant: the address is used. -/
theorem ask_used {l : List Int} (fit : Fit c l) (hu : usd l (x - c.block.base) = true) : ∃ q g : Oq, exact_Begin c ⟨5, x, []⟩ = some (bo c ⟨5, x, []⟩) ∧ exact_Step c l (bo c ⟨5, x, []⟩) = some (l, q, true) ∧ q.answer.used = true ∧ q.phase = 0 ∧
    exact_Begin c ⟨2, x, []⟩ = some (bo c ⟨2, x, []⟩) ∧ exact_Step c l (bo c ⟨2, x, []⟩) = some (l, g, true) ∧ g.answer.err = 5 := by
  have r5 := r.re 5 (.inr rfl)
  have r2 := r.re 2 (.inl rfl)
  have e5 := X_eq fit ub (bo_eo (wask (.inr rfl) hx) r5)
  have e2 := X_eq fit ub (bo_eo (wask (.inl rfl) hx) r2)
  unfold usd at hu
  have x5 : xstep c l (bo c ⟨5, x, []⟩) = (l, { bo c ⟨5, x, []⟩ with answer := ⟨0, 0, hs (gt l ((x - c.block.base) / 32)) ((x - c.block.base) % 32), [], []⟩, phase := 0 }, true) := xs_q rfl rfl
  have x2 : xstep c l (bo c ⟨2, x, []⟩) = (l, { bo c ⟨2, x, []⟩ with answer := ⟨5, 0, false, [], []⟩, phase := 0 }, true) := xs_u rfl (show (2 : Int) ≠ 5 by decide) hu
  rw [x5] at e5
  rw [x2] at e2
  exact ⟨_, _, Begin_eq ub hx r5, e5, hu, rfl, Begin_eq ub hx r2, e2, rfl⟩
/-- What a grant leaves that was done, or marks. -/
structure Done2 (c : Conf) (x : Int) (l : List Int) (used : Bool) (o : Oq) : Prop where
  fit : Fit c l
  eo : EO c ⟨2, x, []⟩ o
  bit : usd l (x - c.block.base) = true
  err : (used == (o.answer.err == 5)) = true
  got : used = false → o.answer.err = 0 ∧ o.answer.addr = x
theorem EA_exit {l : List Int} {used : Bool} {o : Oq} (h : Done2 c x l used o) (hp : o.phase = 0) (n : Nat) (i : Int) : lodgerlaw18_ExactAlone_l1 (n + 1) x l used i c o = some true := by
  obtain ⟨q, g, a1, a2, a3, a4, a5, a6, a7⟩ := ask_used ub hx r h.fit h.bit
  have last : (bif true then (bif q.answer.used then (bif (q.phase == 0) then (bif true then some (g.answer.err == 5) else some false) else some false) else some false) else some false) = some true := by rw [a3, a4, a7]; rfl
  rw [su1_lodgerlaw18_ExactAlone]
  unfold lodgerlaw18_ExactAlone_s1
  by_cases q6 : i < 6
  · refine ct (decide_eq_true q6) ?_
    refine cf (bne_eq_false_iff_eq.2 hp) ?_
    refine bnd a1 ?_
    refine bnd a2 ?_
    refine bnd a5 ?_
    refine bnd a6 ?_
    refine cf (bne_eq_false_iff_eq.2 hp) ?_
    refine cf (by rw [h.err]; rfl) ?_
    cases hu : used
    · refine ct rfl ?_
      obtain ⟨g1, g2⟩ := h.got hu
      refine cf (bne_eq_false_iff_eq.2 g1) ?_
      refine cf (bne_eq_false_iff_eq.2 g2) ?_
      exact last
    · exact cf rfl last
  · refine cf (decide_eq_false q6) ?_
    refine bnd a1 ?_
    refine bnd a2 ?_
    refine bnd a5 ?_
    refine bnd a6 ?_
    refine cf (bne_eq_false_iff_eq.2 hp) ?_
    refine cf (by rw [h.err]; rfl) ?_
    cases hu : used
    · refine ct rfl ?_
      obtain ⟨g1, g2⟩ := h.got hu
      refine cf (bne_eq_false_iff_eq.2 g1) ?_
      refine cf (bne_eq_false_iff_eq.2 g2) ?_
      exact last
    · exact cf rfl last
theorem EA_step {l : List Int} {used : Bool} {o : Oq} {a : Ask} (fit : Fit c l) (eo : EO c a o) (hp : o.phase ≠ 0) (n : Nat) (i : Int) (i0 : 0 ≤ i) (i6 : i < 6) : lodgerlaw18_ExactAlone_l1 (n + 1) x l used i c o = lodgerlaw18_ExactAlone_l1 n x (xstep c l o).1 used (i + 1) c (xstep c l o).2.1 := by
  rw [su1_lodgerlaw18_ExactAlone]
  unfold lodgerlaw18_ExactAlone_s1
  rw [i64_in (i + 1) (by omega)]
  refine ct (decide_eq_true i6) ?_
  refine ct (bne_iff_ne.2 hp) ?_
  exact bnd (X_eq fit ub eo) rfl
theorem EA_marks {used : Bool} : ∀ (k : Nat) (l : List Int) (o : Oq) (i : Int) (n : Nat), Done2 c x l used o → (o.phase = 0 ∨ o.phase = 4 ∨ o.phase = 5) → mu o ≤ k → 0 ≤ i → i + k ≤ 6 → lodgerlaw18_ExactAlone_l1 (n + 1 + k) x l used i c o = some true := by
  have ob := off_b2 ub hx r
  intro k
  induction k with
  | zero =>
    intro l o i n h hp hk i0 i6
    have : o.phase = 0 := by
      by_cases q : o.phase = 0
      · exact q
      · exfalso
        unfold mu at hk
        rw [if_neg q] at hk
        split at hk <;> split at hk <;> omega
    exact EA_exit ub hx r h this n i
  | succ k ih =>
    intro l o i n h hp hk i0 i6
    by_cases q : o.phase = 0
    · rw [show n + 1 + (k + 1) = (n + 1 + k) + 1 by omega]
      exact EA_exit ub hx r h q _ i
    · rw [show n + 1 + (k + 1) = (n + 1 + k) + 1 by omega, EA_step ub hx r h.fit h.eo q _ i i0 (by omega)]
      have hp' : o.phase = 4 ∨ o.phase = 5 := by omega
      have xs : xstep c l o = ((hstep c l o).1, (hstep c l o).2, false) := xs_m hp'
      obtain ⟨m1, m2, m3⟩ := hstep_mark (c := c) (l := l) h.eo hp'
      obtain ⟨k1, k2⟩ := hstep_keep h.fit h.eo
      have hl := hstep_leaf h.fit h.eo ob.2.2.1 ob.2.2.2
      rw [xs]
      refine ih _ _ (i + 1) n ⟨k2, k1, ?_, ?_, ?_⟩ m2 (show mu (hstep c l o).2 ≤ k by omega) (by omega) (by omega)
      · unfold usd; rw [hl]; exact h.bit
      · rw [m1]; exact h.err
      · rw [m1]; exact h.got
end
theorem ad_of {c : Conf} {x : Int} (ub : U32 c.block.base) (hx : U32 x) {o : Int} (h0 : 0 ≤ o) (h : o = x - c.block.base) : ad c o = x := by
  unfold U32 at *
  unfold ad
  rw [u32_in o (by omega), u32_in _ (by omega)]
  omega
theorem EA_l0 (c : Conf) (x : Int) (ub : U32 c.block.base) (hx : U32 x) (r : Right c ⟨2, x, []⟩) (ds : List Int) (hd : ∀ y, y ∈ ds → U32 y) (few : ds.length ≤ 300) : ∀ (d n : Nat) (i : Int) (l : List Int), d + 20 < n → 0 ≤ i → ((ds.length : Int) - i).toNat = d → i ≤ ds.length → Fit c l → lodgerlaw18_ExactAlone_l0 n x ds l i c = some true := by
  have ob := off_b2 ub hx r
  intro d
  induction d with
  | zero =>
    intro n i l hn h1 h2 h3 fit
    obtain ⟨m, rfl⟩ : ∃ m, n = m + 1 := ⟨n - 1, by omega⟩
    rw [su0_lodgerlaw18_ExactAlone]
    unfold lodgerlaw18_ExactAlone_s0
    refine cf (decide_eq_false (by omega)) ?_
    refine bnd (rFind_c r.ok ub hx) ?_
    rw [if_pos r.ins, if_neg (by rw [r.free]; simp)]
    refine bnd (Of_eq fit) ?_
    refine bnd (Has9_eq fit ob.1 ob.2.1 r.free) ?_
    refine bnd (Begin_eq ub hx r) ?_
    have eo := bo_eo (wask (.inl rfl) hx) r
    obtain ⟨q, rfl⟩ : ∃ q, m = q + 1 + 4 + 1 + 1 := ⟨m - 7, by omega⟩
    obtain ⟨l1, l2, l3⟩ := fit.leaf ob.2.2.1 ob.2.2.2
    generalize hu : usd l (x - c.block.base) = u
    have hu' := hu
    unfold usd at hu'
    rw [EA_step ub hx r fit eo (show (8 : Int) ≠ 0 by decide) _ 0 (by omega) (by omega)]
    cases u
    · -- free
      have x2 : xstep c l (bo c ⟨2, x, []⟩) = (l, { bo c ⟨2, x, []⟩ with phase := 3, word := gt l ((x - c.block.base) / 32) }, false) := xs_f rfl (show (2 : Int) ≠ 5 by decide) hu'
      have kp := X_keep fit eo
      rw [x2] at kp ⊢
      obtain ⟨k1, _⟩ := kp
      rw [EA_step ub hx r fit k1 (show (3 : Int) ≠ 0 by decide) _ (0 + 1) (by omega) (by omega)]
      have kp2 := X_keep fit k1
      have hl2 : ({ bo c ⟨2, x, []⟩ with phase := 3, word := gt l ((x - c.block.base) / 32) } : Oq).leaf = (x - c.block.base) / 32 := rfl
      have hb2 : ({ bo c ⟨2, x, []⟩ with phase := 3, word := gt l ((x - c.block.base) / 32) } : Oq).bit = (x - c.block.base) % 32 := rfl
      have hw2 : ({ bo c ⟨2, x, []⟩ with phase := 3, word := gt l ((x - c.block.base) / 32) } : Oq).word = gt l ((x - c.block.base) / 32) := rfl
      have hk2 : ({ bo c ⟨2, x, []⟩ with phase := 3, word := gt l ((x - c.block.base) / 32) } : Oq).ask.kind ≠ 4 := show (2 : Int) ≠ 4 by decide
      have ha2 : ({ bo c ⟨2, x, []⟩ with phase := 3, word := gt l ((x - c.block.base) / 32) } : Oq).answer.err = 0 := rfl
      have hp2 : ({ bo c ⟨2, x, []⟩ with phase := 3, word := gt l ((x - c.block.base) / 32) } : Oq).phase = 3 := rfl
      generalize ({ bo c ⟨2, x, []⟩ with phase := 3, word := gt l ((x - c.block.base) / 32) } : Oq) = o2 at *
      have x3 : xstep c l o2 = clai c l o2 := xs_3 hp2
      have hq : gt l o2.leaf = o2.word := by rw [hl2, hw2]
      have hbit : usd (pt l o2.leaf (cw o2.word o2.bit)) (x - c.block.base) = true := by
        unfold usd
        rw [hl2, hb2, hw2, gt_pt ob.2.2.1 l1 ob.2.2.1, if_pos rfl, hs_cw l3 (by omega) (by omega) (by omega) (by omega)]
        simp
      have had : ad c (32 * o2.leaf + o2.bit) = x := ad_of ub hx (by rw [hl2, hb2]; omega) (by rw [hl2, hb2]; omega)
      cases hf : ful (cw o2.word o2.bit)
      · have e := clai_not hq hf (c := c)
        rw [goes_no (show (got c o2).ask.kind ≠ 4 from hk2)] at e
        rw [x3, e] at kp2 ⊢
        obtain ⟨g1, g2⟩ := kp2
        exact EA_marks ub hx r 4 _ _ (0 + 1 + 1) q ⟨g2, g1, hbit, by show (false == (o2.answer.err == 5)) = true; rw [ha2]; rfl, fun _ => ⟨ha2, had⟩⟩ (.inl rfl) (Nat.zero_le _) (by omega) (by omega)
      · have e := clai_ful hq hf (c := c)
        rw [x3, e] at kp2 ⊢
        obtain ⟨g1, g2⟩ := kp2
        refine EA_marks ub hx r 4 _ _ (0 + 1 + 1) q ⟨g2, g1, hbit, by show (false == (o2.answer.err == 5)) = true; rw [ha2]; rfl, fun _ => ⟨ha2, had⟩⟩ (.inr (.inl rfl)) ?_ (by omega) (by omega)
        exact Nat.le_refl 4
    · have x2 : xstep c l (bo c ⟨2, x, []⟩) = (l, { bo c ⟨2, x, []⟩ with answer := ⟨5, 0, false, [], []⟩, phase := 0 }, true) := xs_u rfl (show (2 : Int) ≠ 5 by decide) hu'
      have kp := X_keep fit eo
      rw [x2] at kp ⊢
      obtain ⟨k1, k2⟩ := kp
      exact EA_exit ub hx r ⟨fit, k1, hu, rfl, fun h => by cases h⟩ rfl _ _
  | succ d ih =>
    intro n i l hn h1 h2 h3 fit
    obtain ⟨m, rfl⟩ : ∃ m, n = m + 1 := ⟨n - 1, by omega⟩
    have hi : i < (ds.length : Int) := by omega
    obtain ⟨l', d1, fit'⟩ := Disturb_eq fit (hd _ (gt_mem h1 hi))
    rw [su0_lodgerlaw18_ExactAlone]
    unfold lodgerlaw18_ExactAlone_s0
    rw [i64_in (i + 1) (by omega)]
    refine ct (decide_eq_true hi) ?_
    refine bnd (geti_eq h1 hi) ?_
    refine bnd d1 ?_
    exact ih m (i + 1) l' (by omega) (by omega) (by omega) (by omega) fit'
theorem pure_ExactAlone (c : Conf) (x : Int) (ds : List Int) (hc : WfV E (.st 1) c) (ha : WfV E u32 x) (hd : WfV E (.slice u32) ds) : lodgerlaw18_ExactAlone c x ds = some true := by
  have wc := v_conf hc
  have hx : U32 x := v_int (k := .u32) ha
  have wd := v_slice (k := .u32) hd
  obtain ⟨b, e, hb⟩ := right_eq wc (wask (.inl rfl) hx)
  unfold lodgerlaw18_ExactAlone lodgerlaw18_ExactAlone_n lodgerlaw18_ExactAlone_e
  refine bnd awake18 ?_
  refine cf rfl ?_
  refine bnd e ?_
  cases b
  · exact ct rfl (bnd awake18 rfl)
  have r := hb rfl
  refine cf rfl ?_
  by_cases q : (ds.length : Int) > 300
  · exact ct (decide_eq_true q) (bnd awake18 rfl)
  refine cf (decide_eq_false q) ?_
  obtain ⟨l, w1, w2, _⟩ := wCells_eq r.ok (by have := r.few; omega)
  refine bnd w1 ?_
  exact EA_l0 c x wc.block.base hx r ds wd.2 (by omega) ds.length big 0 l (by have : big = 4611686018427387904 := rfl; omega) (by omega) (by omega) (by omega) w2
end
end Go.Lv.Ld
