import Derived.Test.YtmmfioeadefceaaDoorLvX3
namespace Go.Lv.Ld
set_option linter.all false
noncomputable section
open Go Go.Lv Go.IntWalk
/-- Is an offset's bit set? -/
def usd (l : List Int) (i : Int) : Bool := hs (gt l (i / 32)) (i % 32)
def ofA (c : Conf) (l : List Int) : Nat → Int → List Int
  | 0, _ => []
  | d + 1, i => if usd l i && !heldB c i then i :: ofA c l d (i + 1) else ofA c l d (i + 1)
def ofL (c : Conf) (l : List Int) : List Int := ofA c l (many c.block).toNat 0
theorem mem_ofA {c : Conf} {l : List Int} {o : Int} : ∀ (d : Nat) (i : Int), o ∈ ofA c l d i ↔ i ≤ o ∧ o < i + d ∧ usd l o = true ∧ heldB c o = false
  | 0, i => by simp only [ofA, List.not_mem_nil, false_iff]; omega
  | d + 1, i => by
    unfold ofA
    by_cases q : usd l i = true ∧ heldB c i = false
    · rw [if_pos (by rw [q.1, q.2]; rfl), List.mem_cons, mem_ofA d (i + 1)]
      constructor
      · rintro (rfl | ⟨h1, h2, h3⟩)
        · exact ⟨by omega, by omega, q⟩
        · exact ⟨by omega, by omega, h3⟩
      · rintro ⟨h1, h2, h3⟩
        by_cases e : o = i
        · exact .inl e
        · exact .inr ⟨by omega, by omega, h3⟩
    · have hf : (usd l i && !heldB c i) = false := by
        cases h1 : usd l i <;> cases h2 : heldB c i <;> simp_all
      rw [if_neg (by rw [hf]; simp), mem_ofA d (i + 1)]
      constructor
      · rintro ⟨h1, h2, h3⟩; exact ⟨by omega, by omega, h3⟩
      · rintro ⟨h1, h2, h3⟩
        by_cases e : o = i
        · subst e; exact absurd h3 q
        · exact ⟨by omega, by omega, h3⟩
theorem ofA_len {c : Conf} {l : List Int} : ∀ (d : Nat) (i : Int), (ofA c l d i).length ≤ d
  | 0, i => Nat.le_refl _
  | d + 1, i => by
    unfold ofA
    have := ofA_len (c := c) (l := l) d (i + 1)
    split
    · simp only [List.length_cons]; omega
    · omega
theorem Of_l (c : Conf) (l : List Int) (fit : Fit c l) : ∀ (d n : Nat) (i : Int) (acc : List Int), d < n → 0 ≤ i → (many c.block - i).toNat = d → i ≤ many c.block → (acc.length : Int) ≤ i → lodgerref09_Of_l0 n l i c acc = some (acc ++ ofA c l d i) := by
  have hm := many_b fit.ok.blk
  have hL := leaves_b hm.1 hm.2
  intro d
  induction d with
  | zero =>
    intro n i acc hn h1 h2 h3 h4
    obtain ⟨m, rfl⟩ : ∃ m, n = m + 1 := ⟨n - 1, by omega⟩
    rw [su0_lodgerref09_Of]
    unfold lodgerref09_Of_s0
    refine bnd (rMany_eq fit.ok.blk) ?_
    refine cf (decide_eq_false (by omega)) ?_
    simp [ofA]
  | succ d ih =>
    intro n i acc hn h1 h2 h3 h4
    obtain ⟨m, rfl⟩ : ∃ m, n = m + 1 := ⟨n - 1, by omega⟩
    obtain ⟨l1, l2, l3⟩ := fit.leaf (i := i / 32) (by omega) (by omega)
    rw [su0_lodgerref09_Of]
    unfold lodgerref09_Of_s0
    rw [i64_in (i + 1) (by omega), i64_quo i 32 (by omega), Int.tmod_eq_emod_of_nonneg h1]
    have ih := fun acc' h => ih m (i + 1) acc' (by omega) (by omega) (by omega) (by omega) h
    refine bnd (rMany_eq fit.ok.blk) ?_
    refine ct (decide_eq_true (by omega)) ?_
    refine bnd (geti_eq (by omega) l1) ?_
    refine bnd (rHas_eq l3 (by omega) (by omega)) ?_
    show (bif usd l i then _ else _) = _
    cases hu : usd l i
    · refine cf rfl ?_
      rw [ih acc (by omega)]
      congr 2
      rw [show ofA c l (d + 1) i = if usd l i && !heldB c i then i :: ofA c l d (i + 1) else ofA c l d (i + 1) from rfl, hu]; rfl
    · refine ct rfl ?_
      refine bnd (rHeld_eq fit.ok.few i) ?_
      cases hh : heldB c i
      · refine ct rfl ?_
        refine ct (decide_eq_true (by unfold maxList; simp only [List.length_cons, List.length_nil]; omega)) ?_
        rw [ih _ (by simp only [List.length_append, List.length_cons, List.length_nil]; omega)]
        rw [List.append_assoc]
        congr 2
        rw [show ofA c l (d + 1) i = if usd l i && !heldB c i then i :: ofA c l d (i + 1) else ofA c l d (i + 1) from rfl, hu, hh]; rfl
      · refine cf rfl ?_
        rw [ih acc (by omega)]
        congr 2
        rw [show ofA c l (d + 1) i = if usd l i && !heldB c i then i :: ofA c l d (i + 1) else ofA c l d (i + 1) from rfl, hu, hh]; rfl
theorem Of_eq {c : Conf} {l : List Int} (fit : Fit c l) : lodgerref09_Of c l = some (ofL c l) := by
  have hm := many_b fit.ok.blk
  have := Of_l c l fit (many c.block).toNat big 0 [] (big_lt (by omega)) (by omega) (by omega) (by omega) (by simp)
  exact this
theorem Has_l (s : List Int) (o : Int) (few : s.length ≤ 100000) : ∀ (d n : Nat) (j : Int), d < n → 0 ≤ j → ((s.length : Int) - j).toNat = d → j ≤ s.length → lodgerref09_Has_l0 n s o j = some (decide (o ∈ s.drop j.toNat)) := by
  intro d
  induction d with
  | zero =>
    intro n j hn h1 h2 h3
    obtain ⟨m, rfl⟩ : ∃ m, n = m + 1 := ⟨n - 1, by omega⟩
    rw [su0_lodgerref09_Has]
    unfold lodgerref09_Has_s0
    refine cf (decide_eq_false (by omega)) ?_
    rw [List.drop_eq_nil_of_le (by omega)]
    simp
  | succ d ih =>
    intro n j hn h1 h2 h3
    obtain ⟨m, rfl⟩ : ∃ m, n = m + 1 := ⟨n - 1, by omega⟩
    have hj : j < (s.length : Int) := by omega
    rw [su0_lodgerref09_Has]
    unfold lodgerref09_Has_s0
    rw [i64_in (j + 1) (by omega), drop_cons h1 hj]
    refine ct (decide_eq_true hj) ?_
    refine bnd (geti_eq h1 hj) ?_
    by_cases q : gt s j = o
    · refine ct (beq_iff_eq.2 q) ?_
      rw [decide_eq_true]; rw [q]; exact List.mem_cons_self
    · refine cf (beq_eq_false_iff_ne.2 q) ?_
      rw [ih m (j + 1) (by omega) (by omega) (by omega) (by omega)]
      congr 1
      rw [decide_eq_decide, List.mem_cons]
      exact ⟨.inr, fun h => h.resolve_left (fun e => q e.symm)⟩
theorem Has9_eq {c : Conf} {l : List Int} (fit : Fit c l) {o : Int} (h0 : 0 ≤ o) (h1 : o < many c.block) (hf : heldB c o = false) : lodgerref09_Has (ofL c l) o = some (usd l o) := by
  have hm := many_b fit.ok.blk
  have hl := ofA_len (c := c) (l := l) (many c.block).toNat 0
  have hl2 : (ofL c l).length ≤ 100000 := by unfold ofL; omega
  have := Has_l (ofL c l) o hl2 (ofL c l).length big 0 (big_lt (by omega)) (by omega) (by omega) (by omega)
  refine this.trans (congrArg some ?_)
  rw [Bool.eq_iff_iff, decide_eq_true_eq, Int.toNat_zero, List.drop_zero]
  unfold ofL
  rw [mem_ofA]
  constructor
  · rintro ⟨_, _, h, _⟩; exact h
  · intro h; exact ⟨by omega, by omega, h, hf⟩

/-- How many steps a mark takes at most. -/
def mu (o : Oq) : Nat := if o.phase = 0 then 0 else if o.at_ = 1 then (if o.phase = 4 then 2 else 1) else (if o.phase = 4 then 4 else 3)
section
variable {c : Conf} {l : List Int} {a : Ask} {o : Oq} (fit : Fit c l) (eo : EO c a o)
include eo
theorem don_mark (hp : o.phase = 4 ∨ o.phase = 5) : (don c o).answer = o.answer ∧ ((don c o).phase = 0 ∨ (don c o).phase = 4) ∧ mu (don c o) ≤ (if o.at_ = 1 then 0 else 2) := by
  refine ⟨don_len.2.1, ?_⟩
  unfold don
  by_cases q : o.at_ = 1 ∨ (o.full = true ∧ o.word ≠ 18446744073709551615)
  · rw [if_pos q, goes_no eo.k4]
    exact ⟨.inl rfl, Nat.zero_le _⟩
  · rw [if_neg q]
    refine ⟨.inr rfl, ?_⟩
    rw [if_neg (fun e => q (.inl e))]
    exact Nat.le_refl _
theorem hstep_mark (hp : o.phase = 4 ∨ o.phase = 5) : (hstep c l o).2.answer = o.answer ∧ ((hstep c l o).2.phase = 0 ∨ (hstep c l o).2.phase = 4 ∨ (hstep c l o).2.phase = 5) ∧ mu (hstep c l o).2 < mu o := by
  have a0 := eo.at0; have a1 := eo.at1
  have hmu : mu o = if o.at_ = 1 then (if o.phase = 4 then 2 else 1) else (if o.phase = 4 then 4 else 3) := by unfold mu; rw [if_neg (by omega)]
  have hd : ∀ w, (don c { o with word := w }).answer = o.answer ∧ ((don c { o with word := w }).phase = 0 ∨ (don c { o with word := w }).phase = 4) ∧ mu (don c { o with word := w }) ≤ (if o.at_ = 1 then 0 else 2) := by
    intro w
    refine ⟨don_len.2.1, ?_⟩
    unfold don
    by_cases q : o.at_ = 1 ∨ (o.full = true ∧ w ≠ 18446744073709551615)
    · rw [if_pos q, goes_no (o := { o with word := w }) eo.k4]
      exact ⟨.inl rfl, Nat.zero_le _⟩
    · rw [if_neg q]
      refine ⟨.inr rfl, ?_⟩
      rw [if_neg (fun e => q (.inl e))]
      exact Nat.le_refl _
  unfold hstep
  by_cases p : o.phase = 4
  · rw [if_pos p]
    rw [if_pos p] at hmu
    by_cases q : hs (gt l (wh c o).1) (wh c o).2 = o.full
    · rw [if_pos q]
      obtain ⟨d1, d2, d3⟩ := hd (gt l (wh c o).1)
      refine ⟨d1, d2.imp id .inl, ?_⟩
      rw [hmu]
      by_cases e : o.at_ = 1
      · rw [if_pos e] at d3 ⊢; simp only; omega
      · rw [if_neg e] at d3 ⊢; simp only; rw [if_pos p]; omega
    · rw [if_neg q]
      refine ⟨rfl, .inr (.inr rfl), ?_⟩
      rw [hmu]
      unfold mu
      simp only
      by_cases e : o.at_ = 1
      · rw [if_pos e, if_pos e, if_neg (show ¬ (5 : Int) = 0 by decide), if_neg (show ¬ (5 : Int) = 4 by decide)]; omega
      · rw [if_neg e, if_neg e, if_pos p, if_neg (show ¬ (5 : Int) = 0 by decide), if_neg (show ¬ (5 : Int) = 4 by decide)]; omega
  · rw [if_neg p]
    rw [if_neg p] at hmu
    obtain ⟨d1, d2, d3⟩ := hd (if o.full then st o.word (wh c o).2 else cl o.word (wh c o).2)
    refine ⟨d1, d2.imp id .inl, ?_⟩
    rw [hmu]
    by_cases e : o.at_ = 1
    · rw [if_pos e] at d3 ⊢; simp only; omega
    · rw [if_neg e] at d3 ⊢; simp only; rw [if_neg p]; omega
include fit
theorem hstep_leaf {j : Int} (j0 : 0 ≤ j) (j1 : j < leaves (many c.block)) : gt (hstep c l o).1 j = gt l j := by
  have hm := many_b fit.ok.blk
  have hL := leaves_b hm.1 hm.2
  have hT := tops_b hm.1 hm.2
  obtain ⟨l1, l2, l3⟩ := fit.leaf j0 j1
  obtain ⟨w1, w2, w3, w4⟩ := wh_b fit eo.leaf0 eo.leaf1
  have hne : (wh c o).1 ≠ j := by
    have := eo.leaf0
    unfold wh; split <;> simp only <;> omega
  unfold hstep
  split
  · split <;> rfl
  · simp only
    split
    · rw [gt_pt j0 l1 w1, if_neg hne]
    · rfl
end
end
end Go.Lv.Ld
