import Derived.Test.YtmmfioeadefceaaDoorLvX5
namespace Go.Lv.Ld
set_option linter.all false
noncomputable section
open Go Go.Lv Go.IntWalk
/-- Nobody has it yet. -/
def Opn (l : List Int) (o : Oq) : Prop := o.answer.err = 0 ∧ (o.phase = 8 ∨ (o.phase = 3 ∧ o.word = gt l o.leaf))
def Won (o : Oq) : Prop := o.answer.err = 0 ∧ (o.phase = 0 ∨ o.phase = 4 ∨ o.phase = 5)
def Lost (o : Oq) : Prop := (o.answer.err = 0 ∧ (o.phase = 8 ∨ (o.phase = 3 ∧ hs o.word o.bit = false))) ∨ (o.phase = 0 ∧ o.answer.err = 5)
def Set0 (c : Conf) (l : List Int) : Prop := ∀ o, 0 ≤ o → o < many c.block → heldB c o = false → usd l o = false
def Set1 (c : Conf) (x : Int) (l : List Int) : Prop := ∀ o, 0 ≤ o → o < many c.block → heldB c o = false → usd l o = decide (o = x - c.block.base)
structure Two (c : Conf) (x : Int) (l : List Int) (a b : Oq) : Prop where
  fit : Fit c l
  ea : EO c ⟨2, x, []⟩ a
  eb : EO c ⟨2, x, []⟩ b
  st : (Set0 c l ∧ Opn l a ∧ Opn l b) ∨ (Set1 c x l ∧ ((Won a ∧ Lost b) ∨ (Lost a ∧ Won b)))
theorem Two.swap {c : Conf} {x : Int} {l : List Int} {a b : Oq} (h : Two c x l a b) : Two c x l b a :=
  ⟨h.fit, h.eb, h.ea, h.st.imp (fun ⟨p, q, r⟩ => ⟨p, r, q⟩) (fun ⟨p, q⟩ => ⟨p, q.elim (fun h => .inr ⟨h.2, h.1⟩) (fun h => .inl ⟨h.2, h.1⟩)⟩)⟩
/-- How many steps are left at most. -/
def rk (u : Bool) (o : Oq) : Nat := if o.phase = 8 then (if u then 1 else 6) else if o.phase = 3 then (if u then 2 else 5) else mu o
theorem mu_le (o : Oq) : mu o ≤ 4 := by unfold mu; split <;> (try split) <;> (try split) <;> omega
theorem rk_le (u : Bool) (o : Oq) : rk u o ≤ 6 := by
  have := mu_le o
  unfold rk; cases u <;> split <;> (try split) <;> simp <;> omega
theorem rk_0 {u : Bool} {c : Conf} {a : Ask} {o : Oq} (e : EO c a o) (h : rk u o = 0) : o.phase = 0 := by
  unfold rk mu at h
  rcases e.ph with p | p | p | p | p
  · exact p
  all_goals (exfalso; rw [p] at h; cases u <;> simp at h <;> split at h <;> omega)
section
variable {c : Conf} {x : Int} (ub : U32 c.block.base) (hx : U32 x) (r : Right c ⟨2, x, []⟩)
include ub hx r
theorem two_step {l : List Int} {a b : Oq} (h : Two c x l a b) (u : Bool) (hu : usd l (x - c.block.base) = u) : Two c x (xstep c l a).1 (xstep c l a).2.1 b ∧ (a.phase ≠ 0 → rk (usd (xstep c l a).1 (x - c.block.base)) (xstep c l a).2.1 < rk u a) ∧ rk (usd (xstep c l a).1 (x - c.block.base)) b ≤ rk u b := by
  have ob := off_b2 ub hx r
  have hm := many_b r.ok.blk
  have hL := leaves_b hm.1 hm.2
  obtain ⟨fit, ea, eb, hst⟩ := h
  obtain ⟨k1, k2⟩ := X_keep fit ea
  have hpl := ea.place
  have hplb := eb.place
  have b0 := ea.bit0; have b1 := ea.bit1
  have c0 := eb.bit0; have c1 := eb.bit1
  have elf : a.leaf = (x - c.block.base) / 32 := by simp only at hpl; omega
  have ebt : a.bit = (x - c.block.base) % 32 := by simp only at hpl; omega
  have flf : b.leaf = (x - c.block.base) / 32 := by simp only at hplb; omega
  have fbt : b.bit = (x - c.block.base) % 32 := by simp only at hplb; omega
  have husd : usd l (x - c.block.base) = hs (gt l a.leaf) a.bit := by unfold usd; rw [elf, ebt]
  obtain ⟨l1, l2, l3⟩ := fit.leaf ob.2.2.1 ob.2.2.2
  by_cases p0 : a.phase = 0
  · rw [xs_0 p0] at k1 k2 ⊢
    exact ⟨⟨fit, ea, eb, hst⟩, fun q => absurd p0 q, by rw [hu]; exact Nat.le_refl _⟩
  -- a mark
  by_cases pm : a.phase = 4 ∨ a.phase = 5
  · rw [xs_m pm] at k1 k2 ⊢
    obtain ⟨m1, m2, m3⟩ := hstep_mark (c := c) (l := l) ea pm
    have hus : ∀ o, 0 ≤ o → o < many c.block → usd (hstep c l a).1 o = usd l o := fun o q1 q2 => by
      unfold usd; rw [hstep_leaf fit ea (by omega) (by omega)]
    have hw : Won a := by
      rcases hst with ⟨_, ⟨_, q | q⟩, _⟩ | ⟨_, ⟨q, _⟩ | ⟨q, _⟩⟩
      · omega
      · omega
      · exact q
      · rcases q with ⟨_, q | q⟩ | q <;> omega
    have hlb : Set1 c x l ∧ Lost b := by
      rcases hst with ⟨_, ⟨_, q | q⟩, _⟩ | ⟨s, ⟨q, q2⟩ | ⟨q, q2⟩⟩
      · omega
      · omega
      · exact ⟨s, q2⟩
      · rcases q with ⟨_, q | q⟩ | q <;> omega
    have hrk : rk u a = mu a := by unfold rk; rw [if_neg (by omega), if_neg (by omega)]
    refine ⟨⟨k2, k1, eb, .inr ⟨fun o q1 q2 q3 => ?_, .inl ⟨⟨?_, m2⟩, hlb.2⟩⟩⟩, fun _ => ?_, ?_⟩
    · show usd (hstep c l a).1 o = _
      rw [hus o q1 q2]; exact hlb.1 o q1 q2 q3
    · show (hstep c l a).2.answer.err = 0
      rw [m1]; exact hw.1
    · rw [hrk]
      show rk _ (hstep c l a).2 < _
      unfold rk
      rw [if_neg (by omega), if_neg (by omega)]
      exact m3
    · show rk (usd (hstep c l a).1 _) b ≤ _
      rw [hus _ ob.1 ob.2.1, hu]; exact Nat.le_refl _
  -- a read
  by_cases p8 : a.phase = 8
  · have hk : a.ask.kind ≠ 5 := by rw [ea.ask]; exact (show (2 : Int) ≠ 5 by decide)
    have herr : a.answer.err = 0 := by
      rcases hst with ⟨_, ⟨q, _⟩, _⟩ | ⟨_, ⟨⟨q, _⟩, _⟩ | ⟨q, _⟩⟩
      · exact q
      · exact q
      · rcases q with ⟨q, _⟩ | ⟨q, _⟩
        · exact q
        · omega
    cases u
    · rw [husd] at hu
      rw [xs_f p8 hk hu] at k1 k2 ⊢
      have h0 : Set0 c l ∧ Opn l b := by
        rcases hst with ⟨q, _, q2⟩ | ⟨s, _⟩
        · exact ⟨q, q2⟩
        · have := s _ ob.1 ob.2.1 r.free
          rw [husd, hu] at this
          simp at this
      refine ⟨⟨fit, k1, eb, .inl ⟨h0.1, ⟨herr, .inr ⟨rfl, rfl⟩⟩, h0.2⟩⟩, fun _ => ?_, ?_⟩
      · show rk (usd l _) { a with phase := 3, word := gt l a.leaf } < rk false a
        rw [husd, hu]
        unfold rk
        rw [if_neg (show ¬ (3 : Int) = 8 by decide), if_pos (show (3 : Int) = 3 from rfl), if_pos p8]
        simp
      · show rk (usd l _) b ≤ _
        rw [husd, hu]; exact Nat.le_refl _
    · have hu2 := hu
      rw [husd] at hu
      rw [xs_u p8 hk hu] at k1 k2 ⊢
      have h1 : Set1 c x l ∧ Won b := by
        rcases hst with ⟨q, _, _⟩ | ⟨s, ⟨⟨_, q⟩, _⟩ | ⟨_, q⟩⟩
        · have := q _ ob.1 ob.2.1 r.free
          rw [hu2] at this; cases this
        · omega
        · exact ⟨s, q⟩
      refine ⟨⟨fit, k1, eb, .inr ⟨h1.1, .inr ⟨.inr ⟨rfl, rfl⟩, h1.2⟩⟩⟩, fun _ => ?_, ?_⟩
      · show rk (usd l _) { a with answer := ⟨5, a.answer.addr, a.answer.used, a.answer.addrs, a.answer.errs⟩, phase := 0 } < rk true a
        unfold rk mu
        rw [if_neg (show ¬ (0 : Int) = 8 by decide), if_neg (show ¬ (0 : Int) = 3 by decide), if_pos (show (0 : Int) = 0 from rfl), if_pos p8]
        simp
      · show rk (usd l _) b ≤ _
        rw [hu2]; exact Nat.le_refl _
  -- a claim
  have p3 : a.phase = 3 := by have := ea.ph; omega
  rw [xs_3 p3] at k1 k2 ⊢
  have herr : a.answer.err = 0 := by
    rcases hst with ⟨_, ⟨q, _⟩, _⟩ | ⟨_, ⟨⟨q, _⟩, _⟩ | ⟨q, _⟩⟩
    · exact q
    · exact q
    · rcases q with ⟨q, _⟩ | ⟨q, _⟩
      · exact q
      · omega
  cases u
  · -- it has it
    have h0 : Set0 c l ∧ a.word = gt l a.leaf ∧ Opn l b := by
      rcases hst with ⟨q, ⟨_, q1 | q1⟩, q2⟩ | ⟨s, _⟩
      · omega
      · exact ⟨q, q1.2, q2⟩
      · have := s _ ob.1 ob.2.1 r.free
        rw [hu] at this
        simp at this
    obtain ⟨s0, hw, opb⟩ := h0
    have hbf : hs (gt l a.leaf) a.bit = false := by rw [← husd]; exact hu
    have lla : a.leaf < (l.length : Int) := by rw [elf]; exact l1
    have uw : U64 (gt l a.leaf) := by rw [elf]; exact l3
    have hus : ∀ o, 0 ≤ o → o < many c.block → usd (pt l a.leaf (cw a.word a.bit)) o = (usd l o || decide (o = x - c.block.base)) := by
      intro o q1 q2
      obtain ⟨m1, _, m3⟩ := fit.leaf (i := o / 32) (by omega) (by omega)
      unfold usd
      rw [gt_pt (by omega) m1 ea.leaf0]
      by_cases e : a.leaf = o / 32
      · rw [if_pos e, hw, hs_cw uw b0 (by omega) (by omega) (by omega), e]
        congr 1
        rw [decide_eq_decide]
        omega
      · rw [if_neg e]
        have : ¬ o = x - c.block.base := by omega
        rw [decide_eq_false this, Bool.or_false]
    have hset : Set1 c x (pt l a.leaf (cw a.word a.bit)) := fun o q1 q2 q3 => by rw [hus o q1 q2, s0 o q1 q2 q3, Bool.false_or]
    have hoff : usd (pt l a.leaf (cw a.word a.bit)) (x - c.block.base) = true := by rw [hus _ ob.1 ob.2.1]; simp
    have lostb : Lost b := by
      refine .inl ⟨opb.1, opb.2.imp id fun q => ⟨q.1, ?_⟩⟩
      rw [q.2, flf, fbt, ← elf, ← ebt]; exact hbf
    have rkb : rk true b ≤ rk false b := by
      rcases opb.2 with q | q
      · unfold rk; rw [if_pos q, if_pos q]; simp
      · unfold rk; rw [if_neg (show ¬ b.phase = 8 by omega), if_pos q.1, if_neg (show ¬ b.phase = 8 by omega), if_pos q.1]; simp
    have rka : rk false a = 5 := by unfold rk; rw [if_neg (by omega), if_pos p3]; rfl
    cases hf : ful (cw a.word a.bit)
    · have e := clai_not (c := c) (l := l) (o := a) hw.symm hf
      rw [goes_no (show (got c a).ask.kind ≠ 4 from ea.k4)] at e
      rw [e] at k1 k2 ⊢
      refine ⟨⟨k2, k1, eb, .inr ⟨hset, .inl ⟨⟨herr, .inl rfl⟩, lostb⟩⟩⟩, fun _ => ?_, ?_⟩
      · rw [rka]
        show rk _ { got c a with phase := 0, word := 0, full := false, at_ := 0 } < 5
        unfold rk
        rw [if_neg (show ¬ (0 : Int) = 8 by decide), if_neg (show ¬ (0 : Int) = 3 by decide)]
        have := mu_le { got c a with phase := 0, word := 0, full := false, at_ := 0 }
        omega
      · show rk (usd (pt l a.leaf (cw a.word a.bit)) _) b ≤ _
        rw [hoff]; exact rkb
    · have e := clai_ful (c := c) (l := l) (o := a) hw.symm hf
      rw [e] at k1 k2 ⊢
      refine ⟨⟨k2, k1, eb, .inr ⟨hset, .inl ⟨⟨herr, .inr (.inl rfl)⟩, lostb⟩⟩⟩, fun _ => ?_, ?_⟩
      · rw [rka]
        show rk _ { got c a with phase := 4, full := true, at_ := 0 } < 5
        unfold rk
        rw [if_neg (show ¬ (4 : Int) = 8 by decide), if_neg (show ¬ (4 : Int) = 3 by decide)]
        have := mu_le { got c a with phase := 4, full := true, at_ := 0 }
        omega
      · show rk (usd (pt l a.leaf (cw a.word a.bit)) _) b ≤ _
        rw [hoff]; exact rkb
  · -- the other one has it
    have h1 : Set1 c x l ∧ Won b ∧ hs a.word a.bit = false := by
      rcases hst with ⟨q, _, _⟩ | ⟨s, ⟨⟨_, q⟩, _⟩ | ⟨q1, q2⟩⟩
      · have := q _ ob.1 ob.2.1 r.free
        rw [hu] at this; cases this
      · omega
      · refine ⟨s, q2, ?_⟩
        rcases q1 with ⟨_, q | q⟩ | q
        · omega
        · exact q.2
        · omega
    have hne : gt l a.leaf ≠ a.word := by
      intro e
      rw [husd, e, h1.2.2] at hu
      cases hu
    rw [clai_bad hne ea.k1] at k1 k2 ⊢
    refine ⟨⟨fit, k1, eb, .inr ⟨h1.1, .inr ⟨.inl ⟨herr, .inl rfl⟩, h1.2.1⟩⟩⟩, fun _ => ?_, ?_⟩
    · show rk (usd l _) { a with phase := 8, word := 0 } < rk true a
      have e2 : rk true a = 2 := by unfold rk; rw [if_neg (show ¬ a.phase = 8 by omega), if_pos p3]; rfl
      have e1 : rk true { a with phase := 8, word := 0 } = 1 := by unfold rk; rw [if_pos (show (8 : Int) = 8 from rfl)]; rfl
      rw [hu, e1, e2]
      omega
    · show rk (usd l _) b ≤ _
      rw [hu]; exact Nat.le_refl _
theorem of_one {l : List Int} (fit : Fit c l) (h : Set1 c x l) : (ofL c l).length = 1 := by
  have ob := off_b2 ub hx r
  have key : ∀ (d : Nat) (i : Int), 0 ≤ i → i + d ≤ many c.block → ofA c l d i = if i ≤ x - c.block.base ∧ x - c.block.base < i + d then [x - c.block.base] else [] := by
    intro d
    induction d with
    | zero => intro i h0 h1; rw [if_neg (by omega)]; rfl
    | succ d ih =>
      intro i h0 h1
      have ih := ih (i + 1) (by omega) (by omega)
      rw [show ofA c l (d + 1) i = if usd l i && !heldB c i then i :: ofA c l d (i + 1) else ofA c l d (i + 1) from rfl, ih]
      by_cases e : i = x - c.block.base
      · have hu : usd l i = true := by rw [h i h0 (by omega) (by rw [e]; exact r.free), e]; simp
        have hf : heldB c i = false := by rw [e]; exact r.free
        rw [hu, hf, if_pos (by rfl), if_neg (by omega), if_pos (by omega), e]
      · have hb : (usd l i && !heldB c i) = false := by
          cases hh : heldB c i
          · rw [h i h0 (by omega) hh, decide_eq_false e]; rfl
          · simp
        rw [hb, if_neg (by simp)]
        by_cases q : i ≤ x - c.block.base ∧ x - c.block.base < i + (d + 1 : Nat)
        · rw [if_pos (by omega), if_pos q]
        · rw [if_neg (by omega), if_neg q]
  unfold ofL
  rw [key _ 0 (by omega) (by omega), if_pos (by omega)]
  rfl
theorem ET_l (ts : List Bool) (few : ts.length ≤ 60) : ∀ (d n : Nat) (i : Int) (l : List Int) (a b : Oq), d < n → 0 ≤ i → ((ts.length : Int) + 40 - i).toNat = d → i ≤ ts.length + 40 → Two c x l a b →
    ((ts.length : Int) ≤ i → rk (usd l (x - c.block.base)) a + rk (usd l (x - c.block.base)) b ≤ d) → lodgerlaw18_ExactTwo_l0 n ts l i c a b = some true := by
  have ob := off_b2 ub hx r
  intro d
  induction d with
  | zero =>
    intro n i l a b hn h1 h2 h3 h hr
    obtain ⟨m, rfl⟩ : ∃ m, n = m + 1 := ⟨n - 1, by omega⟩
    have hr := hr (by omega)
    have pa := rk_0 h.ea (show rk (usd l (x - c.block.base)) a = 0 by omega)
    have pb := rk_0 h.eb (show rk (usd l (x - c.block.base)) b = 0 by omega)
    have h1' : Set1 c x l ∧ ((a.answer.err = 0 ∧ b.answer.err = 5) ∨ (a.answer.err = 5 ∧ b.answer.err = 0)) := by
      rcases h.st with ⟨_, ⟨_, q | q⟩, _⟩ | ⟨s, ⟨⟨q1, _⟩, q2⟩ | ⟨q2, ⟨q1, _⟩⟩⟩
      · omega
      · omega
      · rcases q2 with ⟨_, q | q⟩ | q
        · omega
        · omega
        · exact ⟨s, .inl ⟨q1, q.2⟩⟩
      · rcases q2 with ⟨_, q | q⟩ | q
        · omega
        · omega
        · exact ⟨s, .inr ⟨q.2, q1⟩⟩
    have hof := Of_eq h.fit
    have hone := of_one ub hx r h.fit h1'.1
    rw [su0_lodgerlaw18_ExactTwo]
    unfold lodgerlaw18_ExactTwo_s0
    rw [i64_in ((ts.length : Int) + 40) (by omega)]
    refine cf (decide_eq_false (by omega)) ?_
    refine cf (bne_eq_false_iff_eq.2 pa) ?_
    refine cf (bne_eq_false_iff_eq.2 pb) ?_
    rcases h1'.2 with ⟨e1, e2⟩ | ⟨e1, e2⟩
    · refine ct (by rw [e1, e2]; rfl) ?_
      refine cf (by rw [e1]; rfl) ?_
      refine ct (by rw [e2]; rfl) ?_
      refine bnd hof ?_
      rw [hone]; rfl
    · refine ct (by rw [e1, e2]; rfl) ?_
      refine ct (by rw [e1]; rfl) ?_
      refine bnd hof ?_
      rw [hone]; rfl
  | succ d ih =>
    intro n i l a b hn h1 h2 h3 h hr
    obtain ⟨m, rfl⟩ : ∃ m, n = m + 1 := ⟨n - 1, by omega⟩
    have r6a := rk_le (usd l (x - c.block.base)) a
    have r6b := rk_le (usd l (x - c.block.base)) b
    obtain ⟨t1, t2, t3⟩ := two_step ub hx r h _ rfl
    obtain ⟨s1, s2, s3⟩ := two_step ub hx r h.swap _ rfl
    have xa := X_eq h.fit ub h.ea
    have xb := X_eq h.fit ub h.eb
    have q6a := rk_le (usd (xstep c l a).1 (x - c.block.base)) (xstep c l a).2.1
    have q6b := rk_le (usd (xstep c l a).1 (x - c.block.base)) b
    have q7a := rk_le (usd (xstep c l b).1 (x - c.block.base)) (xstep c l b).2.1
    have q7b := rk_le (usd (xstep c l b).1 (x - c.block.base)) a
    have ia := ih m (i + 1) _ _ _ (by omega) (by omega) (by omega) (by omega) t1
    have ib := ih m (i + 1) _ _ _ (by omega) (by omega) (by omega) (by omega) s1.swap
    have b0 : b.phase = 0 → rk (usd l (x - c.block.base)) b = 0 := fun q => by unfold rk mu; rw [if_neg (by omega), if_neg (by omega), if_pos q]
    have b0' : (xstep c l b).2.1.phase = 0 → rk (usd (xstep c l b).1 (x - c.block.base)) (xstep c l b).2.1 = 0 := fun q => by unfold rk mu; rw [if_neg (by omega), if_neg (by omega), if_pos q]
    have bz : b.phase = 0 → rk (usd (xstep c l b).1 (x - c.block.base)) (xstep c l b).2.1 = 0 := fun q => b0' (by rw [xs_0 q]; exact q)
    have a0 : a.phase = 0 → rk (usd l (x - c.block.base)) a = 0 := fun q => by unfold rk mu; rw [if_neg (by omega), if_neg (by omega), if_pos q]
    -- the measure, behind each of both
    have ma : a.phase ≠ 0 → (ts.length : Int) ≤ i + 1 → rk (usd (xstep c l a).1 (x - c.block.base)) (xstep c l a).2.1 + rk (usd (xstep c l a).1 (x - c.block.base)) b ≤ d := fun q hle => by
      by_cases e : (ts.length : Int) ≤ i
      · have := hr e; have := t2 q; omega
      · omega
    have mb : a.phase = 0 → (ts.length : Int) ≤ i + 1 → rk (usd (xstep c l b).1 (x - c.block.base)) a + rk (usd (xstep c l b).1 (x - c.block.base)) (xstep c l b).2.1 ≤ d := fun q hle => by
      by_cases e : (ts.length : Int) ≤ i
      · have := hr e
        have := a0 q
        by_cases z : b.phase = 0
        · have := bz z; omega
        · have := s2 z; omega
      · omega
    rw [su0_lodgerlaw18_ExactTwo]
    unfold lodgerlaw18_ExactTwo_s0
    rw [i64_in ((ts.length : Int) + 40) (by omega), i64_in (i + 1) (by omega)]
    refine ct (decide_eq_true (by omega)) ?_
    by_cases q : i < (ts.length : Int)
    · refine ct (decide_eq_true q) ?_
      obtain ⟨t, ht⟩ : ∃ t, geti ts i = some t := by
        unfold geti
        rw [if_pos h1, List.getElem?_eq_getElem (show i.toNat < ts.length by omega)]
        exact ⟨_, rfl⟩
      refine bnd ht ?_
      cases t
      · refine cf rfl ?_
        refine cf (decide_eq_false (by omega)) ?_
        exact bnd xb (ib (fun hle => by omega))
      · refine ct rfl ?_
        exact bnd xa (ia (fun hle => by omega))
    · refine cf (decide_eq_false q) ?_
      refine ct (decide_eq_true (by omega)) ?_
      by_cases z : a.phase = 0
      · refine cf (bne_eq_false_iff_eq.2 z) ?_
        exact bnd xb (ib (mb z))
      · refine ct (bne_iff_ne.2 z) ?_
        exact bnd xa (ia (ma z))
end
theorem pure_ExactTwo (c : Conf) (x : Int) (ts : List Bool) (hc : WfV E (.st 1) c) (ha : WfV E u32 x) (hd : WfV E (.slice .bool) ts) : lodgerlaw18_ExactTwo c x ts = some true := by
  have wc := v_conf hc
  have hx : U32 x := v_int (k := .u32) ha
  have ub := wc.block.base
  obtain ⟨b, e, hb⟩ := right_eq wc (wask (.inl rfl) hx)
  unfold lodgerlaw18_ExactTwo lodgerlaw18_ExactTwo_n lodgerlaw18_ExactTwo_e
  refine bnd awake18 ?_
  refine cf rfl ?_
  refine bnd e ?_
  cases b
  · exact ct rfl (bnd awake18 rfl)
  have r := hb rfl
  refine cf rfl ?_
  by_cases q : (ts.length : Int) > 60
  · exact ct (decide_eq_true q) (bnd awake18 rfl)
  refine cf (decide_eq_false q) ?_
  obtain ⟨l, w1, w2, w3⟩ := wCells_eq r.ok (by have := r.few; omega)
  refine bnd w1 ?_
  refine bnd (Begin_eq ub hx r) ?_
  have hm := many_b r.ok.blk
  have hL := leaves_b hm.1 hm.2
  have eo := bo_eo (wask (.inl rfl) hx) r
  have s0 : Set0 c l := fun o q1 q2 q3 => by
    obtain ⟨_, g⟩ := w3 (o / 32) (by omega) (by omega)
    unfold usd
    rw [g (o % 32) (by omega) (by omega), show 32 * (o / 32) + o % 32 = o by omega, q3, decide_eq_false (by omega)]
    rfl
  exact ET_l ub hx r ts (by omega) (ts.length + 40) big 0 l _ _ (big_lt (by omega)) (by omega) (by omega) (by omega) ⟨w2, eo, eo, .inl ⟨s0, ⟨rfl, .inl rfl⟩, ⟨rfl, .inl rfl⟩⟩⟩ (fun hle => by
    have := rk_le (usd l (x - c.block.base)) (bo c ⟨2, x, []⟩)
    omega)
end
end Go.Lv.Ld
