import Derived.Test.YtmmfioeadefceaaDoorLvX5
namespace Go.Lv.Ld
set_option linter.all false
noncomputable section
open Go Go.Lv Go.IntWalk
theorem Ints_l (s : List Int) (few : s.length ≤ 100000) : ∀ (d n : Nat) (j : Int), d < n → 0 ≤ j → ((s.length : Int) - j).toNat = d → j ≤ s.length → lodgerref03_Ints_l0 n s s j = some true := by
  intro d
  induction d with
  | zero =>
    intro n j hn h1 h2 h3
    obtain ⟨m, rfl⟩ : ∃ m, n = m + 1 := ⟨n - 1, by omega⟩
    rw [su0_lodgerref03_Ints]
    unfold lodgerref03_Ints_s0
    exact cf (decide_eq_false (by omega)) rfl
  | succ d ih =>
    intro n j hn h1 h2 h3
    obtain ⟨m, rfl⟩ : ∃ m, n = m + 1 := ⟨n - 1, by omega⟩
    have hj : j < (s.length : Int) := by omega
    rw [su0_lodgerref03_Ints]
    unfold lodgerref03_Ints_s0
    rw [i64_in (j + 1) (by omega)]
    refine ct (decide_eq_true hj) ?_
    refine bnd (geti_eq h1 hj) ?_
    refine bnd (geti_eq h1 hj) ?_
    refine cf (by simp) ?_
    exact ih m (j + 1) (by omega) (by omega) (by omega) (by omega)
theorem Ints_refl {s : List Int} (few : s.length ≤ 100000) : lodgerref03_Ints s s = some true := by
  unfold lodgerref03_Ints lodgerref03_Ints_n lodgerref03_Ints_e
  refine cf (by simp) ?_
  exact Ints_l s few s.length big 0 (big_lt (by omega)) (by omega) (by omega) (by omega)
/-- What is put in its place. -/
def insr (o : Int) : List Int → List Int
  | [] => [o]
  | x :: r => if x > o then o :: x :: r else if x = o then x :: r else x :: insr o r
theorem With_l (s : List Int) (o : Int) (few : s.length ≤ 100000) : ∀ (d n : Nat) (j : Int) (b : Bool) (acc : List Int), d < n → 0 ≤ j → ((s.length : Int) - j).toNat = d → j ≤ s.length → (acc.length : Int) ≤ j + 1 → (b = false → (acc.length : Int) ≤ j) → lodgerref09_With_l0 n s o b j acc = some (acc ++ if b then s.drop j.toNat else insr o (s.drop j.toNat)) := by
  intro d
  induction d with
  | zero =>
    intro n j b acc hn h1 h2 h3 h4 h5
    obtain ⟨m, rfl⟩ : ∃ m, n = m + 1 := ⟨n - 1, by omega⟩
    rw [su0_lodgerref09_With]
    unfold lodgerref09_With_s0
    refine cf (decide_eq_false (by omega)) ?_
    rw [List.drop_eq_nil_of_le (by omega)]
    cases b
    · refine ct rfl ?_
      exact ct (decide_eq_true (by unfold maxList; simp only [List.length_cons, List.length_nil]; omega)) rfl
    · exact cf rfl (by simp)
  | succ d ih =>
    intro n j b acc hn h1 h2 h3 h4 h5
    obtain ⟨m, rfl⟩ : ∃ m, n = m + 1 := ⟨n - 1, by omega⟩
    have hj : j < (s.length : Int) := by omega
    have hg := geti_eq h1 hj
    have ml : ∀ x : Int, decide (acc.length + ([x] : List Int).length ≤ maxList) = true := fun x => decide_eq_true (by unfold maxList; simp only [List.length_cons, List.length_nil]; omega)
    rw [su0_lodgerref09_With]
    unfold lodgerref09_With_s0
    rw [i64_in (j + 1) (by omega), drop_cons h1 hj]
    have ih := fun b acc h h' => ih m (j + 1) b acc (by omega) (by omega) (by omega) (by omega) h h'
    have one : ∀ b : Bool, (b = false → (acc.length : Int) ≤ j) → lodgerref09_With_l0 m s o b (j + 1) (acc ++ [gt s j]) = some (acc ++ gt s j :: if b then s.drop (j + 1).toNat else insr o (s.drop (j + 1).toNat)) := fun b hb => by
      rw [ih b _ (by simp only [List.length_append, List.length_cons, List.length_nil]; omega) (fun e => by have := hb e; simp only [List.length_append, List.length_cons, List.length_nil]; omega), List.append_assoc]; rfl
    refine ct (decide_eq_true hj) ?_
    cases b
    · refine ct rfl ?_
      refine bnd hg ?_
      rw [if_neg Bool.false_ne_true, show insr o (gt s j :: s.drop (j + 1).toNat) = if gt s j > o then o :: gt s j :: s.drop (j + 1).toNat else if gt s j = o then gt s j :: s.drop (j + 1).toNat else gt s j :: insr o (s.drop (j + 1).toNat) from rfl]
      by_cases q : gt s j ≥ o
      · refine ct (decide_eq_true q) ?_
        refine bnd hg ?_
        by_cases q2 : gt s j > o
        · refine ct (decide_eq_true q2) ?_
          refine ct (ml o) ?_
          refine bnd hg ?_
          refine ct (decide_eq_true (by unfold maxList; simp only [List.length_append, List.length_cons, List.length_nil]; omega)) ?_
          have h5 := h5 rfl
          rw [ih true _ (by simp only [List.length_append, List.length_cons, List.length_nil]; omega) (fun e => by cases e), if_pos q2, List.append_assoc, List.append_assoc]; rfl
        · refine cf (decide_eq_false q2) ?_
          refine bnd hg ?_
          refine ct (ml _) ?_
          rw [one true (fun e => by cases e), if_neg q2, if_pos (show gt s j = o by omega)]; rfl
      · refine cf (decide_eq_false q) ?_
        refine bnd hg ?_
        refine ct (ml _) ?_
        rw [one false (fun _ => h5 rfl), if_neg (show ¬ gt s j > o by omega), if_neg (show ¬ gt s j = o by omega)]; rfl
    · refine cf rfl ?_
      refine bnd hg ?_
      refine ct (ml _) ?_
      exact one true (fun e => by cases e)
theorem With_eq {s : List Int} {o : Int} (few : s.length ≤ 100000) : lodgerref09_With s o = some (insr o s) := by
  have := With_l s o few s.length big 0 false [] (big_lt (by omega)) (by omega) (by omega) (by omega) (by simp) (by simp)
  exact this
theorem insr_lt {o : Int} : ∀ {s : List Int}, (∀ x, x ∈ s → x > o) → insr o s = o :: s
  | [], _ => rfl
  | x :: r, h => by unfold insr; rw [if_pos (h x List.mem_cons_self)]
theorem ofA_ins {c : Conf} {l m : List Int} {x : Int} (hf : heldB c x = false) : ∀ (d : Nat) (i : Int), 0 ≤ i → i + d ≤ many c.block → (∀ o, 0 ≤ o → o < many c.block → usd m o = (usd l o || decide (o = x))) → usd l x = false → ofA c m d i = if i ≤ x ∧ x < i + d then insr x (ofA c l d i) else ofA c l d i
  | 0, i, h0, h1, hu, hx => by rw [if_neg (by omega)]; rfl
  | d + 1, i, h0, h1, hu, hx => by
    have ih := ofA_ins hf d (i + 1) (by omega) (by omega) hu hx
    have e1 : ofA c m (d + 1) i = if usd m i && !heldB c i then i :: ofA c m d (i + 1) else ofA c m d (i + 1) := rfl
    have e2 : ofA c l (d + 1) i = if usd l i && !heldB c i then i :: ofA c l d (i + 1) else ofA c l d (i + 1) := rfl
    rw [e1, e2, ih, hu i h0 (by omega)]
    by_cases e : i = x
    · subst e
      rw [hf, hx, decide_eq_true rfl, if_neg (show ¬ (i + 1 ≤ i ∧ i < i + 1 + (d : Int)) by omega), if_pos (show i ≤ i ∧ i < i + ((d + 1 : Nat) : Int) by omega)]
      rw [insr_lt (fun y hy => by
        have : (if (false && !false) = true then i :: ofA c l d (i + 1) else ofA c l d (i + 1)) = ofA c l d (i + 1) := rfl
        rw [this] at hy
        have := (mem_ofA d (i + 1)).1 hy
        omega)]
      rfl
    · rw [decide_eq_false e, Bool.or_false]
      by_cases q : i + 1 ≤ x ∧ x < i + 1 + (d : Int)
      · rw [if_pos q, if_pos (show i ≤ x ∧ x < i + ((d + 1 : Nat) : Int) by omega)]
        cases usd l i && !heldB c i
        · rfl
        · show i :: insr x (ofA c l d (i + 1)) = insr x (i :: ofA c l d (i + 1))
          rw [show insr x (i :: ofA c l d (i + 1)) = if i > x then x :: i :: ofA c l d (i + 1) else if i = x then i :: ofA c l d (i + 1) else i :: insr x (ofA c l d (i + 1)) from rfl, if_neg (by omega), if_neg e]
      · rw [if_neg q, if_neg (show ¬ (i ≤ x ∧ x < i + ((d + 1 : Nat) : Int)) by omega)]
theorem ofL_ins {c : Conf} {l m : List Int} {x : Int} (hf : heldB c x = false) (h0 : 0 ≤ x) (h1 : x < many c.block) (hu : ∀ o, 0 ≤ o → o < many c.block → usd m o = (usd l o || decide (o = x))) (hx : usd l x = false) : ofL c m = insr x (ofL c l) := by
  unfold ofL
  rw [ofA_ins hf _ 0 (by omega) (by omega) hu hx, if_pos (by omega)]
theorem ofA_same {c : Conf} {l m : List Int} : ∀ (d : Nat) (i : Int), 0 ≤ i → i + d ≤ many c.block → (∀ o, 0 ≤ o → o < many c.block → usd m o = usd l o) → ofA c m d i = ofA c l d i
  | 0, i, _, _, _ => rfl
  | d + 1, i, h0, h1, hu => by
    have e1 : ofA c m (d + 1) i = if usd m i && !heldB c i then i :: ofA c m d (i + 1) else ofA c m d (i + 1) := rfl
    have e2 : ofA c l (d + 1) i = if usd l i && !heldB c i then i :: ofA c l d (i + 1) else ofA c l d (i + 1) := rfl
    rw [e1, e2, ofA_same d (i + 1) (by omega) (by omega) hu, hu i h0 (by omega)]
theorem ofL_same {c : Conf} {l m : List Int} (h : 0 ≤ many c.block) (hu : ∀ o, 0 ≤ o → o < many c.block → usd m o = usd l o) : ofL c m = ofL c l := by
  unfold ofL
  exact ofA_same _ 0 (by omega) (by omega) hu
-- A round: with nothing that takes effect; with an answer; with a grant.
section
variable {c : Conf} {a : Ask} {ds l l' m was : List Int} {o p : Oq} {off ef i : Int} {u : Bool} (i0 : 0 ≤ i) (i1 : i < (ds.length : Int)) (few : ds.length ≤ 200) (hp : o.phase ≠ 0) (hd : lodgerref17_Disturb c l (gt ds i) = some l')
  (hw : lodgerref09_Of c l' = some was) (hh : lodgerref09_Has was off = some u) (n : Nat)
include i0 i1 few hp hd hw hh
theorem EO_no (hs : exact_Step c l' o = some (m, p, false)) (hn : lodgerref09_Of c m = some was) (hI : lodgerref03_Ints was was = some true) :
    lodgerlaw18_ExactOnce_l1 (n + 1) ds l off ef i c a o = lodgerlaw18_ExactOnce_l1 n ds m off ef (i + 1) c a p := by
  rw [su1_lodgerlaw18_ExactOnce]
  unfold lodgerlaw18_ExactOnce_s1
  rw [i64_in (i + 1) (by omega)]
  refine ct (decide_eq_true i1) ?_
  refine ct (bne_iff_ne.2 hp) ?_
  refine bnd (geti_eq i0 i1) ?_
  refine bnd hd ?_
  refine bnd hw ?_
  refine bnd hs ?_
  refine bnd hn ?_
  refine bnd hh ?_
  refine cf rfl ?_
  by_cases k : a.kind = 5
  · refine ct (beq_iff_eq.2 k) ?_
    refine bnd hI ?_
    refine cf rfl ?_
    refine cf rfl ?_
    exact cf rfl rfl
  · refine cf (beq_eq_false_iff_ne.2 k) ?_
    refine ct rfl ?_
    refine bnd hI ?_
    refine cf rfl ?_
    refine cf rfl ?_
    exact cf rfl rfl
theorem EO_ask (k : a.kind = 5) (e0 : 0 ≤ ef) (e1 : ef ≤ 10) (hs : exact_Step c l' o = some (m, p, true)) (hn : lodgerref09_Of c m = some was) (hI : lodgerref03_Ints was was = some true) (hu : p.answer.used = u) :
    lodgerlaw18_ExactOnce_l1 (n + 1) ds l off ef i c a o = lodgerlaw18_ExactOnce_l1 n ds m off (ef + 1) (i + 1) c a p := by
  rw [su1_lodgerlaw18_ExactOnce]
  unfold lodgerlaw18_ExactOnce_s1
  rw [i64_in (i + 1) (by omega), i64_in (ef + 1) (by omega)]
  refine ct (decide_eq_true i1) ?_
  refine ct (bne_iff_ne.2 hp) ?_
  refine bnd (geti_eq i0 i1) ?_
  refine bnd hd ?_
  refine bnd hw ?_
  refine bnd hs ?_
  refine bnd hn ?_
  refine bnd hh ?_
  refine ct rfl ?_
  refine ct (beq_iff_eq.2 k) ?_
  refine bnd hI ?_
  refine cf rfl ?_
  refine ct rfl ?_
  refine ct (beq_iff_eq.2 k) ?_
  refine cf (by rw [hu]; simp) ?_
  refine ct rfl ?_
  exact cf (beq_eq_false_iff_ne.2 (by omega)) rfl
theorem EO_used (k : a.kind = 2) (e0 : 0 ≤ ef) (e1 : ef ≤ 10) (hs : exact_Step c l' o = some (m, p, true)) (hn : lodgerref09_Of c m = some was) (hI : lodgerref03_Ints was was = some true) (hu : u = true) (he : p.answer.err = 5) :
    lodgerlaw18_ExactOnce_l1 (n + 1) ds l off ef i c a o = lodgerlaw18_ExactOnce_l1 n ds m off (ef + 1) (i + 1) c a p := by
  rw [su1_lodgerlaw18_ExactOnce]
  unfold lodgerlaw18_ExactOnce_s1
  rw [i64_in (i + 1) (by omega), i64_in (ef + 1) (by omega)]
  refine ct (decide_eq_true i1) ?_
  refine ct (bne_iff_ne.2 hp) ?_
  refine bnd (geti_eq i0 i1) ?_
  refine bnd hd ?_
  refine bnd hw ?_
  refine bnd hs ?_
  refine bnd hn ?_
  refine bnd hh ?_
  refine ct rfl ?_
  refine cf (beq_eq_false_iff_ne.2 (by omega)) ?_
  refine cf rfl ?_
  refine ct (bne_iff_ne.2 (show p.answer.err ≠ 0 by omega)) ?_
  refine bnd hI ?_
  refine cf rfl ?_
  refine ct rfl ?_
  refine cf (beq_eq_false_iff_ne.2 (by omega)) ?_
  refine ct rfl ?_
  refine ct (beq_iff_eq.2 k) ?_
  refine cf (bne_eq_false_iff_eq.2 he) ?_
  exact cf (by rw [hu]; rfl) rfl
theorem EO_got {now : List Int} (k : a.kind = 2) (e0 : 0 ≤ ef) (e1 : ef ≤ 10) (hs : exact_Step c l' o = some (m, p, true)) (hn : lodgerref09_Of c m = some now) (hW : lodgerref09_With was off = some now) (hI : lodgerref03_Ints now now = some true) (hu : u = false) (he : p.answer.err = 0) (ha : p.answer.addr = a.addr) :
    lodgerlaw18_ExactOnce_l1 (n + 1) ds l off ef i c a o = lodgerlaw18_ExactOnce_l1 n ds m off (ef + 1) (i + 1) c a p := by
  rw [su1_lodgerlaw18_ExactOnce]
  unfold lodgerlaw18_ExactOnce_s1
  rw [i64_in (i + 1) (by omega), i64_in (ef + 1) (by omega)]
  refine ct (decide_eq_true i1) ?_
  refine ct (bne_iff_ne.2 hp) ?_
  refine bnd (geti_eq i0 i1) ?_
  refine bnd hd ?_
  refine bnd hw ?_
  refine bnd hs ?_
  refine bnd hn ?_
  refine bnd hh ?_
  refine ct rfl ?_
  refine cf (beq_eq_false_iff_ne.2 (by omega)) ?_
  refine cf rfl ?_
  refine cf (bne_eq_false_iff_eq.2 he) ?_
  refine cf hu ?_
  refine cf (bne_eq_false_iff_eq.2 ha) ?_
  refine bnd hW ?_
  refine bnd hI ?_
  exact cf rfl rfl
end
/-- Once at most. -/
def Onc (a : Ask) (o : Oq) (ef : Int) : Prop :=
  (ef = 0 ∧ o.answer.err = 0 ∧ (o.phase = 8 ∨ (o.phase = 3 ∧ a.kind = 2 ∧ hs o.word o.bit = false))) ∨ (ef = 1 ∧ (o.phase = 0 ∨ o.phase = 4 ∨ o.phase = 5))
theorem EO_exit {c : Conf} {a : Ask} {ds l : List Int} {o : Oq} {off ef i : Int} (h : Onc a o ef) (hi : ¬ i < (ds.length : Int) ∨ o.phase = 0) (n : Nat) : lodgerlaw18_ExactOnce_l1 (n + 1) ds l off ef i c a o = some true := by
  have fin : (bif (decide (ef ≤ 1)) then (bif (o.phase != 0) then some true else some (ef == 1)) else some false) = some true := by
    refine ct (decide_eq_true (by rcases h with h | h <;> omega)) ?_
    by_cases q : o.phase = 0
    · refine cf (bne_eq_false_iff_eq.2 q) ?_
      rcases h with ⟨_, _, h | h⟩ | h
      · omega
      · omega
      · rw [h.1]; rfl
    · exact ct (bne_iff_ne.2 q) rfl
  rw [su1_lodgerlaw18_ExactOnce]
  unfold lodgerlaw18_ExactOnce_s1
  by_cases q : i < (ds.length : Int)
  · refine ct (decide_eq_true q) ?_
    exact cf (bne_eq_false_iff_eq.2 (hi.resolve_left (fun h => h q))) fin
  · exact cf (decide_eq_false q) fin
theorem EO_l1 (c : Conf) (a : Ask) (ub : U32 c.block.base) (ha : U32 a.addr) (r : Right c a) (ds : List Int) (hd : ∀ x, x ∈ ds → U32 x) (few : ds.length ≤ 200) : ∀ (d n : Nat) (i ef : Int) (l : List Int) (o : Oq), d < n → 0 ≤ i → ((ds.length : Int) - i).toNat = d → i ≤ ds.length → Fit c l → EO c a o → Onc a o ef → lodgerlaw18_ExactOnce_l1 n ds l (a.addr - c.block.base) ef i c a o = some true := by
  have r2 : Right c ⟨2, a.addr, []⟩ := r.re 2 (.inl rfl)
  have ob := off_b2 ub ha r2
  have hm := many_b r.ok.blk
  have hL := leaves_b hm.1 hm.2
  intro d
  induction d with
  | zero =>
    intro n i ef l o hn h1 h2 h3 fit eo on
    obtain ⟨m, rfl⟩ : ∃ m, n = m + 1 := ⟨n - 1, by omega⟩
    exact EO_exit on (.inl (by omega)) m
  | succ d ih =>
    intro n i ef l o hn h1 h2 h3 fit eo on
    obtain ⟨m, rfl⟩ : ∃ m, n = m + 1 := ⟨n - 1, by omega⟩
    have hi : i < (ds.length : Int) := by omega
    by_cases p0 : o.phase = 0
    · exact EO_exit on (.inr p0) m
    obtain ⟨l', d1, fit'⟩ := Disturb_eq fit (hd _ (gt_mem h1 hi))
    obtain ⟨k1, k2⟩ := X_keep fit' eo
    have e1 := X_eq fit' ub eo
    have hw := Of_eq fit'
    have hlen : ∀ q, (ofL c q).length ≤ 100000 := fun q => by
      have := ofA_len (c := c) (l := q) (many c.block).toNat 0
      have := fit.few
      unfold ofL; omega
    have hh := Has9_eq fit' ob.1 ob.2.1 r.free
    have hpl := eo.place
    have b0 := eo.bit0; have b1 := eo.bit1
    have elf : o.leaf = (a.addr - c.block.base) / 32 := by omega
    have ebt : o.bit = (a.addr - c.block.base) % 32 := by omega
    have husd : usd l' (a.addr - c.block.base) = hs (gt l' o.leaf) o.bit := by unfold usd; rw [elf, ebt]
    have ih := fun ef q p f e h => ih m (i + 1) ef q p (by omega) (by omega) (by omega) (by omega) f e h
    obtain ⟨l1, l2, l3⟩ := fit'.leaf ob.2.2.1 ob.2.2.2
    have hk : o.ask.kind = a.kind := by rw [eo.ask]
    by_cases pm : o.phase = 4 ∨ o.phase = 5
    · -- a mark
      rw [xs_m pm] at k1 k2 e1
      obtain ⟨m1, m2, m3⟩ := hstep_mark (c := c) (l := l') eo pm
      have hs' : ofL c (hstep c l' o).1 = ofL c l' := ofL_same (by omega) fun q q1 q2 => by
        unfold usd; rw [hstep_leaf fit' eo (by omega) (by omega)]
      have hn := Of_eq k2
      rw [hs'] at hn
      rw [EO_no h1 hi few p0 d1 hw hh m e1 hn (Ints_refl (hlen _))]
      refine ih ef _ _ k2 k1 (.inr ⟨?_, m2⟩)
      rcases on with ⟨_, _, h | h⟩ | h
      · omega
      · omega
      · exact h.1
    have on0 : ef = 0 ∧ o.answer.err = 0 ∧ (o.phase = 8 ∨ (o.phase = 3 ∧ a.kind = 2 ∧ hs o.word o.bit = false)) := by
      rcases on with h | h
      · exact h
      · omega
    obtain ⟨ez, er, ph⟩ := on0
    subst ez
    rcases ph with p8 | ⟨p3, k2', hb⟩
    · by_cases k5 : a.kind = 5
      · -- a question
        rw [xs_q p8 (hk.trans k5)] at k1 k2 e1
        rw [EO_ask h1 hi few p0 d1 hw hh m k5 (by omega) (by omega) e1 hw (Ints_refl (hlen _)) husd.symm]
        exact ih _ _ _ k2 k1 (.inr ⟨rfl, .inl rfl⟩)
      · have k2' : a.kind = 2 := by have := eo.kind; omega
        cases hu : usd l' (a.addr - c.block.base)
        · -- free
          rw [husd] at hu
          rw [xs_f p8 (by omega) hu] at k1 k2 e1
          rw [EO_no h1 hi few p0 d1 hw hh m e1 hw (Ints_refl (hlen _))]
          exact ih _ _ _ k2 k1 (.inl ⟨rfl, er, .inr ⟨rfl, k2', hu⟩⟩)
        · have hu2 := hu
          rw [husd] at hu
          rw [xs_u p8 (by omega) hu] at k1 k2 e1
          rw [EO_used h1 hi few p0 d1 hw hh m k2' (by omega) (by omega) e1 hw (Ints_refl (hlen _)) hu2 rfl]
          exact ih _ _ _ k2 k1 (.inr ⟨rfl, .inl rfl⟩)
    · -- a claim
      rw [xs_3 p3] at k1 k2 e1
      by_cases hq : gt l' o.leaf = o.word
      · have hbf : hs (gt l' o.leaf) o.bit = false := by rw [hq]; exact hb
        have lla : o.leaf < (l'.length : Int) := by rw [elf]; exact l1
        have uw : U64 (gt l' o.leaf) := by rw [elf]; exact l3
        have hus : ∀ q, 0 ≤ q → q < many c.block → usd (pt l' o.leaf (cw o.word o.bit)) q = (usd l' q || decide (q = a.addr - c.block.base)) := by
          intro q q1 q2
          obtain ⟨m1, _, m3⟩ := fit'.leaf (i := q / 32) (by omega) (by omega)
          unfold usd
          rw [gt_pt (by omega) m1 eo.leaf0]
          by_cases e : o.leaf = q / 32
          · rw [if_pos e, ← hq, hs_cw uw b0 (by omega) (by omega) (by omega), e]
            congr 1
            rw [decide_eq_decide]
            omega
          · rw [if_neg e]
            have : ¬ q = a.addr - c.block.base := by omega
            rw [decide_eq_false this, Bool.or_false]
        have hins : ofL c (pt l' o.leaf (cw o.word o.bit)) = insr (a.addr - c.block.base) (ofL c l') := ofL_ins r.free ob.1 ob.2.1 hus (husd.trans hbf)
        have had : ad c (32 * o.leaf + o.bit) = a.addr := ad_of ub ha (by omega) (by omega)
        have hW := With_eq (o := a.addr - c.block.base) (hlen l')
        rw [← hins] at hW
        cases hf : ful (cw o.word o.bit)
        · have e := clai_not hq hf (c := c)
          rw [goes_no (show (got c o).ask.kind ≠ 4 from eo.k4)] at e
          rw [e] at k1 k2 e1
          rw [EO_got h1 hi few p0 d1 hw hh m k2' (by omega) (by omega) e1 (Of_eq k2) hW (Ints_refl (hlen _)) (husd.trans hbf) er had]
          exact ih _ _ _ k2 k1 (.inr ⟨rfl, .inl rfl⟩)
        · have e := clai_ful hq hf (c := c)
          rw [e] at k1 k2 e1
          rw [EO_got h1 hi few p0 d1 hw hh m k2' (by omega) (by omega) e1 (Of_eq k2) hW (Ints_refl (hlen _)) (husd.trans hbf) er had]
          exact ih _ _ _ k2 k1 (.inr ⟨rfl, .inr (.inl rfl)⟩)
      · rw [clai_bad hq eo.k1] at k1 k2 e1
        rw [EO_no h1 hi few p0 d1 hw hh m e1 hw (Ints_refl (hlen _))]
        exact ih _ _ _ k2 k1 (.inl ⟨rfl, er, .inl rfl⟩)
theorem EO_l0 (c : Conf) (a : Ask) (ub : U32 c.block.base) (wa : WAsk a) (r : Right c a) (ds es : List Int) (hd : ∀ y, y ∈ ds → U32 y) (he : ∀ y, y ∈ es → U32 y) (few : ds.length ≤ 200) (few2 : es.length ≤ 200) : ∀ (d n : Nat) (i : Int) (l : List Int), d + 1000 < n → 0 ≤ i → ((ds.length : Int) - i).toNat = d → i ≤ ds.length → Fit c l → lodgerlaw18_ExactOnce_l0 n ds es l i c a = some true := by
  intro d
  induction d with
  | zero =>
    intro n i l hn h1 h2 h3 fit
    obtain ⟨m, rfl⟩ : ∃ m, n = m + 1 := ⟨n - 1, by omega⟩
    rw [su0_lodgerlaw18_ExactOnce]
    unfold lodgerlaw18_ExactOnce_s0
    refine cf (decide_eq_false (by omega)) ?_
    refine bnd (rFind_c r.ok ub wa.addr) ?_
    rw [if_pos r.ins, if_neg (by rw [r.free]; simp)]
    refine bnd (Begin_eq ub wa.addr r) ?_
    exact EO_l1 c a ub wa.addr r es he few2 es.length m 0 0 l _ (by omega) (by omega) (by omega) (by omega) fit (bo_eo wa r) (.inl ⟨rfl, rfl, .inl rfl⟩)
  | succ d ih =>
    intro n i l hn h1 h2 h3 fit
    obtain ⟨m, rfl⟩ : ∃ m, n = m + 1 := ⟨n - 1, by omega⟩
    have hi : i < (ds.length : Int) := by omega
    obtain ⟨l', d1, fit'⟩ := Disturb_eq fit (hd _ (gt_mem h1 hi))
    rw [su0_lodgerlaw18_ExactOnce]
    unfold lodgerlaw18_ExactOnce_s0
    rw [i64_in (i + 1) (by omega)]
    refine ct (decide_eq_true hi) ?_
    refine bnd (geti_eq h1 hi) ?_
    refine bnd d1 ?_
    exact ih m (i + 1) l' (by omega) (by omega) (by omega) (by omega) fit'
theorem pure_ExactOnce (c : Conf) (a : Ask) (ds es : List Int) (hc : WfV E (.st 1) c) (ha : WfV E (.st 2) a) (hd : WfV E (.slice u32) ds) (he : WfV E (.slice u32) es) : lodgerlaw18_ExactOnce c a ds es = some true := by
  have wc := v_conf hc
  have wa := v_ask ha
  have wd := v_slice (k := .u32) hd
  have we := v_slice (k := .u32) he
  obtain ⟨b, e, hb⟩ := right_eq wc wa
  unfold lodgerlaw18_ExactOnce lodgerlaw18_ExactOnce_n lodgerlaw18_ExactOnce_e
  refine bnd awake18 ?_
  refine cf rfl ?_
  refine bnd e ?_
  cases b
  · exact ct rfl (bnd awake18 rfl)
  have r := hb rfl
  refine cf rfl ?_
  by_cases q : (ds.length : Int) > 200
  · exact ct (decide_eq_true q) (bnd awake18 rfl)
  refine cf (decide_eq_false q) ?_
  by_cases q2 : (es.length : Int) > 200
  · exact ct (decide_eq_true q2) (bnd awake18 rfl)
  refine cf (decide_eq_false q2) ?_
  obtain ⟨l, w1, w2, _⟩ := wCells_eq r.ok (by have := r.few; omega)
  refine bnd w1 ?_
  exact EO_l0 c a wc.block.base wa r ds es wd.2 we.2 (by omega) (by omega) ds.length big 0 l (by have : big = 4611686018427387904 := rfl; omega) (by omega) (by omega) (by omega) w2
end
end Go.Lv.Ld
