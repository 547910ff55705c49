import Derived.Test.YtiajkejmabflaaaDoorLaI
import Derived.Test.YtiajkejmabflaaaDoorLaF
namespace Go.Lv.Ld
set_option linter.all false
noncomputable section
open Go Go.Lv Go.IntWalk
theorem lodgerref03_Ints_l (a b : List Int) (hl : a.length = b.length) : ∀ (d n : Nat) (i : Int), d < n → 0 ≤ i → ((a.length : Int) - i).toNat = d → i ≤ a.length → a.length ≤ 4000000000000000000 →
    (∀ j : Int, 0 ≤ j → j < i → gt a j = gt b j) → lodgerref03_Ints_l0 n a b i = some (decide (a = b)) := by
  intro d
  induction d with
  | zero =>
    intro n i hn h1 h2 h3 h4 h5
    obtain ⟨m, rfl⟩ : ∃ m, n = m + 1 := ⟨n - 1, by omega⟩
    rw [su0_lodgerref03_Ints]
    unfold lodgerref03_Ints_s0
    have : a = b := list_ext hl fun i q1 q2 => h5 i q1 (by omega)
    clear h5
    simp (disch := omega) only [i64_in, u64_in, u32_in, u8_in, u16_in, Option.bind_some, Option.bind_none, Option.bind_eq_bind, ↓Bool.cond_eq_ite, decide_eq_true_eq, beq_iff_eq, bne_iff_ne, ne_eq, Bool.not_eq_true', Bool.not_eq_true, Bool.not_eq_false', Bool.not_not, decide_eq_false_iff_not, if_pos, if_neg, reduceIte, not_true_eq_false, not_false_eq_true, Bool.false_eq_true, Bool.true_eq_false, reduceCtorEq]
    rw [decide_eq_true this]
  | succ d ih =>
    intro n i hn h1 h2 h3 h4 h5
    obtain ⟨m, rfl⟩ : ∃ m, n = m + 1 := ⟨n - 1, by omega⟩
    rw [su0_lodgerref03_Ints]
    unfold lodgerref03_Ints_s0
    have hx := ih m (i + 1) (by omega) (by omega) (by omega) (by omega) h4
    by_cases c : gt a i = gt b i
    · have hy := hx fun j q1 q2 => by
        by_cases e : j = i
        · rw [e, c]
        · exact h5 j q1 (by omega)
      clear h5 hx ih
      simp (disch := omega) only [geti_eq h1 (show i < (a.length : Int) by omega), geti_eq h1 (show i < (b.length : Int) by omega), c, i64_in, u64_in, u32_in, u8_in, u16_in, Option.bind_some, Option.bind_none, Option.bind_eq_bind, ↓Bool.cond_eq_ite, decide_eq_true_eq, beq_iff_eq, bne_iff_ne, ne_eq, Bool.not_eq_true', Bool.not_eq_true, Bool.not_eq_false', Bool.not_not, decide_eq_false_iff_not, if_pos, if_neg, reduceIte, not_true_eq_false, not_false_eq_true, Bool.false_eq_true, Bool.true_eq_false, reduceCtorEq]
      exact hy
    · have : a ≠ b := fun e => c (by rw [e])
      clear h5 hx ih
      simp (disch := omega) only [geti_eq h1 (show i < (a.length : Int) by omega), geti_eq h1 (show i < (b.length : Int) by omega), c, i64_in, u64_in, u32_in, u8_in, u16_in, Option.bind_some, Option.bind_none, Option.bind_eq_bind, ↓Bool.cond_eq_ite, decide_eq_true_eq, beq_iff_eq, bne_iff_ne, ne_eq, Bool.not_eq_true', Bool.not_eq_true, Bool.not_eq_false', Bool.not_not, decide_eq_false_iff_not, if_pos, if_neg, reduceIte, not_true_eq_false, not_false_eq_true, Bool.false_eq_true, Bool.true_eq_false, reduceCtorEq]
      rw [decide_eq_false this]
theorem lodgerref03_Ints_eq (a b : List Int) (h : a.length ≤ 4000000000000000000) : lodgerref03_Ints a b = some (decide (a = b)) := by
  unfold lodgerref03_Ints lodgerref03_Ints_n lodgerref03_Ints_e
  by_cases c : (a.length : Int) = b.length
  · simp (disch := omega) only [c, i64_in, u64_in, u32_in, u8_in, u16_in, Option.bind_some, Option.bind_none, Option.bind_eq_bind, ↓Bool.cond_eq_ite, decide_eq_true_eq, beq_iff_eq, bne_iff_ne, ne_eq, Bool.not_eq_true', Bool.not_eq_true, Bool.not_eq_false', Bool.not_not, decide_eq_false_iff_not, if_pos, if_neg, reduceIte, not_true_eq_false, not_false_eq_true, Bool.false_eq_true, Bool.true_eq_false, reduceCtorEq]
    exact lodgerref03_Ints_l a b (by omega) a.length big 0 (big_lt (by omega)) (by omega) (by omega) (by omega) h fun j q1 q2 => by omega
  · simp (disch := omega) only [c, i64_in, u64_in, u32_in, u8_in, u16_in, Option.bind_some, Option.bind_none, Option.bind_eq_bind, ↓Bool.cond_eq_ite, decide_eq_true_eq, beq_iff_eq, bne_iff_ne, ne_eq, Bool.not_eq_true', Bool.not_eq_true, Bool.not_eq_false', Bool.not_not, decide_eq_false_iff_not, if_pos, if_neg, reduceIte, not_true_eq_false, not_false_eq_true, Bool.false_eq_true, Bool.true_eq_false, reduceCtorEq]
    rw [decide_eq_false]
    intro e; exact c (by rw [e])
theorem bt_len (c : Conf) : ∀ (l s : List Int), (bt c l s).2.length = l.length
  | [], _ => rfl
  | x :: r, s => by
    show (bt c r (rmv (x - c.block.base) s)).2.length + 1 = r.length + 1
    rw [bt_len c r]
theorem fnd_v (c : Conf) (x : Int) : fnd c x = 0 ∨ fnd c x = 3 ∨ fnd c x = 4 := by
  unfold fnd
  split
  · split
    · exact .inr (.inr rfl)
    · exact .inl rfl
  · exact .inr (.inl rfl)
theorem chk_ne (c : Conf) : ∀ (l s : List Int), chk c l s ≠ 2 ∧ chk c l s ≠ 10 ∧ chk c l s ≠ 12
  | [], _ => ⟨by unfold chk; decide, by unfold chk; decide, by unfold chk; decide⟩
  | x :: r, s => by
    unfold chk
    split
    · rcases fnd_v c x with e | e | e <;> rw [e] <;> exact ⟨by decide, by decide, by decide⟩
    split
    · exact ⟨by decide, by decide, by decide⟩
    · exact chk_ne c r _
theorem ck_ne (c : Conf) (a : Ask) : ck c a ≠ 2 ∧ ck c a ≠ 10 ∧ ck c a ≠ 12 := by
  unfold ck
  split
  · exact ⟨by decide, by decide, by decide⟩
  split
  · exact ⟨by decide, by decide, by decide⟩
  split
  · exact ⟨by decide, by decide, by decide⟩
  · exact chk_ne c _ _
theorem an_err {x y : Answer} (h : x.err ≠ y.err) : an x y = false := an_ne fun e => h (by rw [e])
theorem iteP {α : Type} (P : α → Prop) (b : Prop) [Decidable b] (p q : α) (h1 : b → P p) (h2 : ¬ b → P q) : P (if b then p else q) := by
  by_cases hb : b
  · rw [if_pos hb]; exact h1 hb
  · rw [if_neg hb]; exact h2 hb
theorem lg_two (c : Conf) (s : List Int) (a : Ask) : (lg c s a (fl 2)).2 = false := by
  have no : ∀ y : Answer, (2 : Int) ≠ y.err → an (fl 2) y = false := fun y h => an_err h
  have ab : ∀ {P : Prop} (y : Answer), (2 : Int) ≠ y.err → an (fl 2) y = true → P := fun y h e => by rw [no y h] at e; cases e
  unfold lg
  refine iteP (fun p : List Int × Bool => p.2 = false) _ _ _ (fun h => ab (fl 10) (by decide) h) fun _ => iteP (fun p : List Int × Bool => p.2 = false) _ _ _ (fun h => ab (fl 12) (by decide) h) fun _ =>
    iteP (fun p : List Int × Bool => p.2 = false) _ _ _ (fun _ => no (fl (ck c a)) fun e => (ck_ne c a).1 e.symm) fun _ => ?_
  refine iteP (fun p : List Int × Bool => p.2 = false) _ _ _ (fun _ => iteP (fun p : List Int × Bool => p.2 = false) _ _ _ (fun h => ab (fl 9) (by decide) h) fun _ => iteP (fun p : List Int × Bool => p.2 = false) _ _ _ (fun h => ab ⟨0, (fl 2).addr, false, [], []⟩ (by decide) h) fun _ => rfl) fun _ => ?_
  refine iteP (fun p : List Int × Bool => p.2 = false) _ _ _ (fun _ => iteP (fun p : List Int × Bool => p.2 = false) _ _ _ (fun _ => no (fl 5) (by decide)) fun _ => iteP (fun p : List Int × Bool => p.2 = false) _ _ _ (fun h => ab ⟨0, a.addr, false, [], []⟩ (by show (2 : Int) ≠ 0; decide) h) fun _ => rfl) fun _ => ?_
  refine iteP (fun p : List Int × Bool => p.2 = false) _ _ _ (fun _ => iteP (fun p : List Int × Bool => p.2 = false) _ _ _ (fun _ => iteP (fun p : List Int × Bool => p.2 = false) _ _ _ (fun h => ab (fl 0) (by decide) h) fun _ => rfl) fun _ => no (fl 6) (by decide)) fun _ => ?_
  refine iteP (fun p : List Int × Bool => p.2 = false) _ _ _ (fun _ => iteP (fun p : List Int × Bool => p.2 = false) _ _ _ (fun h => ab ⟨0, 0, false, [], (bt c a.addrs s).2⟩ (by show (2 : Int) ≠ 0; decide) h) fun _ => rfl) fun _ => ?_
  refine iteP (fun p : List Int × Bool => p.2 = false) _ _ _ (fun _ => no ⟨0, 0, decide (a.addr - c.block.base ∈ s), [], []⟩ (by show (2 : Int) ≠ 0; decide)) fun _ => ?_
  refine iteP (fun p : List Int × Bool => p.2 = false) _ _ _ (fun _ => iteP (fun p : List Int × Bool => p.2 = false) _ _ _ (fun h => ab (fl 11) (by decide) h) fun _ => no ⟨0, 0, false, s.map (ad c), []⟩ (by show (2 : Int) ≠ 0; decide)) fun _ => no (fl 0) (by decide)
/-- What is asked of a configuration and a set. -/
structure CS (c : Conf) (s : List Int) : Prop where
  ok : OKc c
  ub : U32 c.block.base
  few : many c.block ≤ 256
  set : SOK c s
def AO (a : Ask) : Prop := WAsk a ∧ a.addrs.length ≤ 100
def AnsQ (x : Answer) : Prop := U32 x.addr ∧ x.addrs.length ≤ 100000 ∧ x.errs.length ≤ 100000 ∧ x.err ≠ 10 ∧ x.err ≠ 12
theorem sm_q {c : Conf} {s : List Int} {a : Ask} (h : CS c s) (ha : AO a) : AnsQ (sm c s a).2 := by
  obtain ⟨ok, ub, few, hs⟩ := h
  obtain ⟨wa, fewa⟩ := ha
  have hl := hs.len few ok
  have z : U32 0 := ⟨by decide, by decide⟩
  have flq : ∀ e : Int, e ≠ 10 → e ≠ 12 → AnsQ (fl e) := fun e h1 h2 => ⟨z, by simp [fl], by simp [fl], h1, h2⟩
  unfold sm
  refine iteP (fun p : List Int × Answer => AnsQ p.2) _ _ _ (fun _ => flq _ (ck_ne c a).2.1 (ck_ne c a).2.2) fun _ => ?_
  refine iteP (fun p : List Int × Answer => AnsQ p.2) _ _ _ (fun _ => ?_) fun _ => ?_
  · cases hfr : fr c s (many c.block).toNat 0 with
    | none => exact flq 9 (by decide) (by decide)
    | some o =>
      obtain ⟨o1, o2, _, _⟩ := fr_some _ _ _ hfr
      have hm := many_b ok.blk
      have had := ad_eq ok ub (o := o) o1 (by omega)
      have := top_le ok.blk ok.base ub
      have := ub.1
      refine ⟨?_, Nat.zero_le _, Nat.zero_le _, by show (0 : Int) ≠ 10; decide, by show (0 : Int) ≠ 12; decide⟩
      show U32 (ad c o)
      rw [had]; exact ⟨by omega, by omega⟩
  refine iteP (fun p : List Int × Answer => AnsQ p.2) _ _ _ (fun _ => iteP (fun p : List Int × Answer => AnsQ p.2) _ _ _ (fun _ => flq 5 (by decide) (by decide)) fun _ => ⟨wa.addr, Nat.zero_le _, Nat.zero_le _, by show (0 : Int) ≠ 10; decide, by show (0 : Int) ≠ 12; decide⟩) fun _ => ?_
  refine iteP (fun p : List Int × Answer => AnsQ p.2) _ _ _ (fun _ => iteP (fun p : List Int × Answer => AnsQ p.2) _ _ _ (fun _ => flq 0 (by decide) (by decide)) fun _ => flq 6 (by decide) (by decide)) fun _ => ?_
  refine iteP (fun p : List Int × Answer => AnsQ p.2) _ _ _ (fun _ => ⟨z, Nat.zero_le _, by show (bt c a.addrs s).2.length ≤ 100000; rw [bt_len]; omega, by show (0 : Int) ≠ 10; decide, by show (0 : Int) ≠ 12; decide⟩) fun _ => ?_
  refine iteP (fun p : List Int × Answer => AnsQ p.2) _ _ _ (fun _ => ⟨z, Nat.zero_le _, Nat.zero_le _, by show (0 : Int) ≠ 10; decide, by show (0 : Int) ≠ 12; decide⟩) fun _ => ?_
  refine iteP (fun p : List Int × Answer => AnsQ p.2) _ _ _ (fun _ => ⟨z, by show (s.map (ad c)).length ≤ 100000; rw [List.length_map]; omega, Nat.zero_le _, by show (0 : Int) ≠ 10; decide, by show (0 : Int) ≠ 12; decide⟩) fun _ => flq 0 (by decide) (by decide)
theorem sm_lok {c : Conf} {s : List Int} {a : Ask} (h : CS c s) (ha : AO a) : LOK c s a (sm c s a).2 := by
  obtain ⟨q1, q2, q3, _, _⟩ := sm_q h ha
  exact ⟨h.ok, h.ub, h.few, h.set, ha.1, ha.2, q1, q2, q3⟩
theorem sm_lg {c : Conf} {s : List Int} {a : Ask} (h : CS c s) (ha : AO a) : lg c s a (sm c s a).2 = ((sm c s a).1, true) := by
  obtain ⟨_, _, _, q4, q5⟩ := sm_q h ha
  rw [← ms_lg (sm_lok h ha)]
  unfold ms
  have e1 : an (sm c s a).2 (fl 10) = false := an_err q4
  have e2 : an (sm c s a).2 (fl 12) = false := an_err q5
  rw [if_neg (by rw [e1]; exact Bool.false_ne_true), if_neg (by rw [e2]; exact Bool.false_ne_true), if_pos (an_self _)]
theorem sm_ok {c : Conf} {s : List Int} {a : Ask} (h : CS c s) (ha : AO a) : CS c (sm c s a).1 := by
  have := lg_ok (sm_lok h ha)
  rw [sm_lg h ha] at this
  exact ⟨h.ok, h.ub, h.few, this⟩
theorem rS0_l (c : Conf) (s : List Int) (a : Ask) (h : CS c s) (ha : AO a) (hk : ck c a = 0) (k1 : a.kind = 1) (m2 : Answer) : ∀ (d n : Nat) (i : Int), d < n → 0 ≤ i → (many c.block - i).toNat = d → i ≤ many c.block →
    lodgerref11_Some_l0 n s i c a m2 = some (match fr c s d i with | some o => (insr o s, ⟨0, ad c o, false, [], []⟩) | none => (s, fl 9)) := by
  intro d
  induction d with
  | zero =>
    intro n i hn h1 h2 h3
    obtain ⟨m, rfl⟩ : ∃ m, n = m + 1 := ⟨n - 1, by omega⟩
    rw [su0_lodgerref11_Some]
    unfold lodgerref11_Some_s0
    exact bnd (rMany_eq h.ok.blk) (cf (decide_eq_false (by omega)) rfl)
  | succ d ih =>
    intro n i hn h1 h2 h3
    obtain ⟨m, rfl⟩ : ∃ m, n = m + 1 := ⟨n - 1, by omega⟩
    have hm := many_b h.ok.blk
    have hi : i < many c.block := by omega
    have had := ad_eq h.ok h.ub (o := i) h1 hi
    have htop := top_le h.ok.blk h.ok.base h.ub
    have hb0 := h.ub.1
    rw [su0_lodgerref11_Some]
    unfold lodgerref11_Some_s0
    rw [i64_in (i + 1) (by omega)]
    have lok : LOK c s a ⟨0, ad c i, false, [], []⟩ := ⟨h.ok, h.ub, h.few, h.set, ha.1, ha.2, by show U32 (ad c i); rw [had]; exact ⟨by omega, by omega⟩, Nat.zero_le _, Nat.zero_le _⟩
    have hins : ins c.block (ad c i) := by unfold ins; rw [had]; omega
    have hsub : ad c i - c.block.base = i := by rw [had]; omega
    have e : lg c s a ⟨0, ad c i, false, [], []⟩ = if heldB c i = true ∨ i ∈ s then (s, false) else (insr i s, true) := by
      unfold lg
      have n0 : ∀ k : Int, k ≠ 0 → an ⟨0, ad c i, false, [], []⟩ (fl k) = false := fun k hk => an_err (fun e => hk e.symm)
      rw [if_neg (by rw [n0 10 (by decide)]; exact Bool.false_ne_true), if_neg (by rw [n0 12 (by decide)]; exact Bool.false_ne_true), if_neg (by simp [hk]), if_pos k1, if_neg (by rw [n0 9 (by decide)]; exact Bool.false_ne_true), if_pos (an_self _)]
      show (if fnd c (ad c i) ≠ 0 then (s, false) else if ad c i - c.block.base ∈ s then (s, false) else (insr (ad c i - c.block.base) s, true)) = _
      have hf : fnd c (ad c i) = if heldB c i then 4 else 0 := by unfold fnd; rw [if_pos hins, hsub]
      rw [hf, hsub]
      cases hh : heldB c i with
      | true => rw [if_pos (by decide), if_pos (.inl rfl)]
      | false =>
        rw [if_neg (by decide)]
        by_cases q : i ∈ s
        · rw [if_pos q, if_pos (.inr q)]
        · rw [if_neg q, if_neg (by rintro (z | z); cases z; exact q z)]
    refine bnd (rMany_eq h.ok.blk) (ct (decide_eq_true hi) (bnd (rLegal_eq lok) ?_))
    show (bif (lg c s a ⟨0, ad c i, false, [], []⟩).2 then some ((lg c s a ⟨0, ad c i, false, [], []⟩).1, (⟨0, ad c i, false, [], []⟩ : Answer)) else lodgerref11_Some_l0 m s (i + 1) c a m2) = _
    rw [e]
    unfold fr
    by_cases q : heldB c i = true ∨ i ∈ s
    · rw [if_pos q, if_pos q]
      exact cf rfl (ih m (i + 1) (by omega) (by omega) (by omega) (by omega))
    · rw [if_neg q, if_neg q]
      exact ct rfl rfl
theorem rS1_l (c : Conf) (a : Ask) (m2 : Answer) (ok : OKc c) (ub : U32 c.block.base) (few : many c.block ≤ 256) (hu : ∀ y, y ∈ a.addrs → U32 y) (hf : ∀ y, y ∈ a.addrs → fnd c y = 0) (fewl : a.addrs.length ≤ 100000) :
    ∀ (d n : Nat) (i : Int) (s es : List Int), d < n → 0 ≤ i → ((a.addrs.length : Int) - i).toNat = d → i ≤ a.addrs.length → SOK c s → (es.length : Int) = i →
    lodgerref11_Some_l1 n s i c a m2 es = some ((bt c (a.addrs.drop i.toNat) s).1, ⟨0, 0, false, [], es ++ (bt c (a.addrs.drop i.toNat) s).2⟩) := by
  intro d
  induction d with
  | zero =>
    intro n i s es hn h1 h2 h3 hs h4
    obtain ⟨m, rfl⟩ : ∃ m, n = m + 1 := ⟨n - 1, by omega⟩
    rw [su1_lodgerref11_Some]
    unfold lodgerref11_Some_s1
    rw [List.drop_eq_nil_of_le (by omega)]
    refine cf (decide_eq_false (by omega)) ?_
    show _ = some (s, (⟨0, 0, false, [], es ++ []⟩ : Answer))
    rw [List.append_nil]
  | succ d ih =>
    intro n i s es hn h1 h2 h3 hs h4
    obtain ⟨m, rfl⟩ : ∃ m, n = m + 1 := ⟨n - 1, by omega⟩
    have hj : i < (a.addrs.length : Int) := by omega
    have hmx : maxList = 137438953472 := rfl
    have hx := gt_mem h1 hj
    have hl := hs.len few ok
    obtain ⟨p1, p2, p3⟩ := fp_ok (hf _ hx)
    rw [su1_lodgerref11_Some]
    unfold lodgerref11_Some_s1
    rw [i64_in (i + 1) (by omega), drop_cons h1 hj]
    refine ct (decide_eq_true hj) (bnd (geti_eq h1 hj) (bnd (rOffset_eq ok.blk ub (hu _ hx)) ?_))
    rw [if_pos p2]
    refine bnd (sHas_eq (by omega) _) ?_
    have ih := fun e => ih m (i + 1) (rmv (gt a.addrs i - c.block.base) s) (es ++ [e]) (by omega) (by omega) (by omega) (by omega) (hs.rmv _) (by simp only [List.length_append, List.length_singleton]; omega)
    show _ = some ((bt c (a.addrs.drop (i + 1).toNat) (rmv (gt a.addrs i - c.block.base) s)).1, (⟨0, 0, false, [], es ++ ((if gt a.addrs i - c.block.base ∈ s then 0 else 6) :: (bt c (a.addrs.drop (i + 1).toNat) (rmv (gt a.addrs i - c.block.base) s)).2)⟩ : Answer))
    by_cases q : gt a.addrs i - c.block.base ∈ s
    · refine ct (decide_eq_true q) (ct (decide_eq_true (by simp only [List.length_singleton]; omega)) (bnd (rWithout_eq (by omega) _) ?_))
      show lodgerref11_Some_l1 m (rmv (gt a.addrs i - c.block.base) s) (i + 1) c a m2 (es ++ [0]) = _
      rw [ih 0, if_pos q, List.append_assoc]; rfl
    · refine cf (decide_eq_false q) (ct (decide_eq_true (by simp only [List.length_singleton]; omega)) (bnd (rWithout_eq (by omega) _) ?_))
      show lodgerref11_Some_l1 m (rmv (gt a.addrs i - c.block.base) s) (i + 1) c a m2 (es ++ [6]) = _
      rw [ih 6, if_neg q, List.append_assoc]; rfl
theorem rSome_eq {c : Conf} {s : List Int} {a : Ask} (h : CS c s) (ha : AO a) : lodgerref11_Some c s a = some (sm c s a) := by
  have hl := h.set.len h.few h.ok
  have hm := many_b h.ok.blk
  have fewm := h.few
  obtain ⟨wa, fewa⟩ := ha
  show lodgerref11_Some_e (lodgerref11_Some_l0 big) (lodgerref11_Some_l1 big) c s a = _
  unfold lodgerref11_Some_e sm
  refine bnd (rCheck_eq h.ok h.ub wa fewa) ?_
  by_cases hk : ck c a = 0
  rotate_left
  · rw [if_pos hk]; exact ct (bne_iff_ne.2 hk) rfl
  rw [if_neg (by simp [hk])]
  refine cf (by rw [hk]; rfl) (bnd (rOffset_eq h.ok.blk h.ub wa.addr) ?_)
  rw [off_1]
  refine bnd (sHas_eq (by omega) _) ?_
  have hoff : one a → off c.block a.addr = a.addr - c.block.base := fun k => by
    have := (fp_ok (ck_one hk k)).2.1
    unfold off; rw [if_pos this]
  by_cases k1 : a.kind = 1
  · rw [if_pos k1]
    exact ct (beq_iff_eq.2 k1) (rS0_l c s a h ⟨wa, fewa⟩ hk k1 _ (many c.block).toNat big 0 (big_lt (by omega)) (by omega) (by omega) (by omega))
  rw [if_neg k1]
  refine cf (beq_eq_false_iff_ne.2 k1) ?_
  by_cases k2 : a.kind = 2
  · rw [if_pos k2, hoff (.inl k2)]
    refine ct (beq_iff_eq.2 k2) ?_
    by_cases q : a.addr - c.block.base ∈ s
    · rw [if_pos q]; exact ct (decide_eq_true q) rfl
    · rw [if_neg q]; exact cf (decide_eq_false q) (bnd (With_eq (by omega)) rfl)
  rw [if_neg k2]
  refine cf (beq_eq_false_iff_ne.2 k2) ?_
  by_cases k3 : a.kind = 3
  · rw [if_pos k3, hoff (.inr (.inl k3))]
    refine ct (beq_iff_eq.2 k3) ?_
    by_cases q : a.addr - c.block.base ∈ s
    · rw [if_pos q]; exact cf (by simp [q]) (bnd (rWithout_eq (by omega) _) rfl)
    · rw [if_neg q]; exact ct (by simp [q]) rfl
  rw [if_neg k3]
  refine cf (beq_eq_false_iff_ne.2 k3) ?_
  by_cases k4 : a.kind = 4
  · rw [if_pos k4]
    have hf := chk_all _ _ (ck_four hk k4).2.2
    have := rS1_l c a (⟨0, 0, false, [], []⟩ : Answer) h.ok h.ub h.few wa.addrs.2 hf (by omega) a.addrs.length big 0 s [] (big_lt (by omega)) (by omega) (by omega) (by omega) h.set rfl
    exact ct (beq_iff_eq.2 k4) this
  rw [if_neg k4]
  refine cf (beq_eq_false_iff_ne.2 k4) ?_
  by_cases k5 : a.kind = 5
  · rw [if_pos k5, hoff (.inr (.inr k5))]
    exact ct (beq_iff_eq.2 k5) rfl
  rw [if_neg k5]
  refine cf (beq_eq_false_iff_ne.2 k5) ?_
  by_cases k6 : a.kind = 6
  · rw [if_pos k6]
    exact ct (beq_iff_eq.2 k6) (bnd (rAddrs_eq c (by omega)) rfl)
  rw [if_neg k6]
  exact cf (beq_eq_false_iff_ne.2 k6) rfl
end
end Go.Lv.Ld
namespace Go.Lv.Ld
set_option linter.all false
noncomputable section
open Go Go.Lv Go.IntWalk
/-- The calls that are made. -/
def bl (c : Conf) : List Call → Int → List Int → List Call
  | [], _, _ => []
  | x :: r, i, now => ⟨0, x.ask, 2 * i, 2 * i + 1, (sm c now x.ask).2⟩ :: bl c r (i + 1) (sm c now x.ask).1
def up : Nat → Int → List Int
  | 0, _ => []
  | d + 1, i => i :: up d (i + 1)
theorem bl_len (c : Conf) : ∀ (l : List Call) (i : Int) (now : List Int), (bl c l i now).length = l.length
  | [], _, _ => rfl
  | x :: r, i, now => by simp only [bl, List.length_cons]; rw [bl_len c r]
theorem up_len : ∀ (d : Nat) (i : Int), (up d i).length = d
  | 0, _ => rfl
  | d + 1, i => by simp only [up, List.length_cons]; rw [up_len d]
theorem up_mem {x : Int} : ∀ (d : Nat) (i : Int), x ∈ up d i ↔ i ≤ x ∧ x < i + d
  | 0, i => ⟨fun h => (by cases h), fun h => (by omega)⟩
  | d + 1, i => by
    simp only [up, List.mem_cons]
    rw [up_mem d (i + 1)]
    omega
theorem up_srp : ∀ (d : Nat) (i : Int), Srp (up d i)
  | 0, _ => List.Pairwise.nil
  | d + 1, i => List.pairwise_cons.2 ⟨fun y hy => by have := (up_mem d (i + 1)).1 hy; omega, up_srp d (i + 1)⟩
theorem up_gt : ∀ (d : Nat) (i k : Int), 0 ≤ k → k < d → gt (up d i) k = i + k
  | 0, i, k, h0, h => by omega
  | d + 1, i, k, h0, h => by
    by_cases e : k = 0
    · subst e; show i = i + 0; omega
    · have := up_gt d (i + 1) (k - 1) (by omega) (by omega)
      have e2 : gt (up (d + 1) i) k = gt (up d (i + 1)) (k - 1) := by
        unfold gt
        have : k.toNat = (k - 1).toNat + 1 := by omega
        rw [this]; rfl
      rw [e2, this]; omega
theorem srp_ext : ∀ (a b : List Int), Srp a → Srp b → (∀ x, x ∈ a ↔ x ∈ b) → a = b
  | [], [], _, _, _ => rfl
  | [], y :: b, _, _, h => by have := (h y).2 List.mem_cons_self; cases this
  | x :: a, [], _, _, h => by have := (h x).1 List.mem_cons_self; cases this
  | x :: a, y :: b, ha, hb, h => by
    have ha' := List.pairwise_cons.1 ha
    have hb' := List.pairwise_cons.1 hb
    have e : x = y := by
      rcases List.mem_cons.1 ((h x).1 List.mem_cons_self) with q | q
      · exact q
      rcases List.mem_cons.1 ((h y).2 List.mem_cons_self) with p | p
      · exact p.symm
      have := hb'.1 x q
      have := ha'.1 y p
      omega
    subst e
    rw [srp_ext a b ha'.2 hb'.2 fun z => ?_]
    constructor
    · intro hz
      rcases List.mem_cons.1 ((h z).1 (List.mem_cons_of_mem _ hz)) with q | q
      · have := ha'.1 z hz; omega
      · exact q
    · intro hz
      rcases List.mem_cons.1 ((h z).2 (List.mem_cons_of_mem _ hz)) with q | q
      · have := hb'.1 z hz; omega
      · exact q
theorem bl_ck (c : Conf) : ∀ (l : List Call) (i : Int) (now : List Int), CS c now → (∀ x, x ∈ l → AO x.ask) → ∀ y, y ∈ bl c l i now → CK y
  | [], _, _, _, _, y, h => by cases h
  | x :: r, i, now, hc, ha, y, h => by
    have hx := ha x List.mem_cons_self
    rcases List.mem_cons.1 h with e | h
    · obtain ⟨q1, q2, q3, _, _⟩ := sm_q hc hx
      rw [e]; exact ⟨hx.1, hx.2, q1, q2, q3⟩
    · exact bl_ck c r (i + 1) _ (sm_ok hc hx) (fun z hz => ha z (List.mem_cons_of_mem _ hz)) y h
theorem bl_at (c : Conf) : ∀ (l : List Call) (i : Int) (now : List Int) (k : Nat) (y : Call), (bl c l i now)[k]? = some y → y.from_ = 2 * (i + k) ∧ y.to_ = 2 * (i + k) + 1
  | [], _, _, k, y, h => by simp [bl] at h
  | x :: r, i, now, 0, y, h => by
    simp only [bl, List.getElem?_cons_zero, Option.some.injEq] at h
    subst h
    exact ⟨by show 2 * i = 2 * (i + ((0 : Nat) : Int)); omega, by show 2 * i + 1 = 2 * (i + ((0 : Nat) : Int)) + 1; omega⟩
  | x :: r, i, now, k + 1, y, h => by
    simp only [bl, List.getElem?_cons_succ] at h
    obtain ⟨a, b⟩ := bl_at c r (i + 1) _ k y h
    exact ⟨by rw [a]; omega, by rw [b]; omega⟩
theorem rp_up (c : Conf) : ∀ (l : List Call) (i : Int) (now : List Int) (L : List Call), 0 ≤ i → (∀ (k : Nat) (y : Call), (bl c l i now)[k]? = some y → L[i.toNat + k]? = some y) → CS c now → (∀ x, x ∈ l → AO x.ask) → (rp c L (up l.length i) now).isSome = true
  | [], i, now, L, _, _, _, _ => rfl
  | x :: r, i, now, L, h0, hL, hc, ha => by
    have hx := ha x List.mem_cons_self
    have e : geti L i = some ⟨0, x.ask, 2 * i, 2 * i + 1, (sm c now x.ask).2⟩ := by
      unfold geti
      rw [if_pos h0]; exact hL 0 _ rfl
    show (rp c L (i :: up r.length (i + 1)) now).isSome = true
    unfold rp
    rw [e]
    show (if (lg c now x.ask (sm c now x.ask).2).2 = true then rp c L (up r.length (i + 1)) (lg c now x.ask (sm c now x.ask).2).1 else none).isSome = true
    rw [sm_lg hc hx, if_pos rfl]
    refine rp_up c r (i + 1) _ L (by omega) (fun k y h => ?_) (sm_ok hc hx) (fun z hz => ha z (List.mem_cons_of_mem _ hz))
    have := hL (k + 1) y h
    rw [show (i + 1).toNat + k = i.toNat + (k + 1) by omega]; exact this
theorem rp_mem (c : Conf) (L : List Call) {w : Int} {x : Call} (hx : geti L w = some x) : ∀ (t s : List Int), (rp c L t s).isSome = true → w ∈ t → ∃ s', (lg c s' x.ask x.answer).2 = true
  | [], s, _, h => by cases h
  | n :: r, s, hr, h => by
    unfold rp at hr
    cases e : geti L n with
    | none => rw [e] at hr; cases hr
    | some y =>
      rw [e] at hr
      simp only at hr
      by_cases q : (lg c s y.ask y.answer).2 = true
      · rw [if_pos q] at hr
        rcases List.mem_cons.1 h with z | z
        · rw [← z, hx] at e
          cases e
          exact ⟨s, q⟩
        · exact rp_mem c L hx r _ hr z
      · rw [if_neg q] at hr; cases hr
/-- Calls one behind the other. -/
structure Ap (L : List Call) : Prop where
  t : ∀ k : Int, 0 ≤ k → k < (L.length : Int) → tt L k = 2 * k + 1
  f : ∀ k : Int, 0 ≤ k → k < (L.length : Int) → ff L k = 2 * k
theorem Ap_up {L : List Call} (h : Ap L) : Wh L (up L.length 0) := by
  refine ⟨fun n hn => ?_, fun i i0 i1 k k0 k1 => ?_, fun j j0 j1 _ => ?_⟩
  · have := (up_mem L.length 0).1 hn; omega
  · rw [up_len] at i1
    rw [up_gt _ _ _ i0 (by omega), up_gt _ _ _ k0 (by omega), Int.zero_add, Int.zero_add]
    refine ⟨by omega, fun ⟨_, q⟩ => ?_⟩
    rw [h.t i i0 (by omega), h.f k k0 (by omega)] at q
    omega
  · exact (up_mem L.length 0).2 ⟨j0, by omega⟩
theorem Ap_only {L : List Call} (h : Ap L) {t : List Int} (w : Wh L t) : t = up L.length 0 := by
  have hs : Srt t := fun i j i0 hij hj => by
    obtain ⟨b1, b2⟩ := w.beh j (by omega) hj i i0 hij
    obtain ⟨p0, p1⟩ := w.inr _ (gt_mem (l := t) (i := j) (by omega) hj)
    obtain ⟨q0, q1⟩ := w.inr _ (gt_mem (l := t) (i := i) i0 (by omega))
    rw [h.t _ p0 p1, h.f _ q0 q1] at b2
    by_cases q : gt t i < gt t j
    · exact q
    · exact absurd ⟨by omega, by omega⟩ b2
  refine srp_ext _ _ hs.srp (up_srp _ _) fun x => ?_
  rw [up_mem]
  constructor
  · intro hx; have := w.inr x hx; omega
  · intro hx
    refine w.all x hx.1 (by omega) ?_
    rw [h.t x hx.1 (by omega)]; omega
theorem geti_nat {l : List Call} {k : Int} (h0 : 0 ≤ k) : geti l k = l[k.toNat]? := by unfold geti; rw [if_pos h0]
theorem bl_ap (c : Conf) (l : List Call) (now : List Int) : Ap (bl c l 0 now) := by
  have key : ∀ k : Int, 0 ≤ k → k < ((bl c l 0 now).length : Int) → ∃ y, geti (bl c l 0 now) k = some y ∧ y.from_ = 2 * k ∧ y.to_ = 2 * k + 1 := fun k h0 h => by
    obtain ⟨y, e, _, _, _⟩ := gC h0 h
    have := bl_at c l 0 now k.toNat y (by rw [← geti_nat h0]; exact e)
    exact ⟨y, e, by omega, by omega⟩
  refine ⟨fun k h0 h => ?_, fun k h0 h => ?_⟩
  · obtain ⟨y, e, _, q⟩ := key k h0 h
    unfold tt; rw [e]; exact q
  · obtain ⟨y, e, q, _⟩ := key k h0 h
    unfold ff; rw [e]; exact q
theorem Ap.set {L : List Call} (h : Ap L) {w : Nat} {x : Call} (hx : L[w]? = some x) (a : Answer) : Ap (L.set w { x with answer := a }) := by
  have key : ∀ k : Int, 0 ≤ k → tt (L.set w { x with answer := a }) k = tt L k ∧ ff (L.set w { x with answer := a }) k = ff L k := fun k h0 => by
    unfold tt ff
    rw [geti_nat h0, geti_nat h0]
    by_cases e : w = k.toNat
    · subst e
      rw [List.getElem?_set_self (List.getElem?_eq_some_iff.1 hx).1, hx]
      exact ⟨rfl, rfl⟩
    · rw [List.getElem?_set_ne e]
      exact ⟨rfl, rfl⟩
  refine ⟨fun k h0 hk => ?_, fun k h0 hk => ?_⟩
  · rw [(key k h0).1]; exact h.t k h0 (by rw [List.length_set] at hk; exact hk)
  · rw [(key k h0).2]; exact h.f k h0 (by rw [List.length_set] at hk; exact hk)
theorem dropC {l : List Call} {i : Int} (h0 : 0 ≤ i) (h : i < (l.length : Int)) : ∃ x, geti l i = some x ∧ x ∈ l ∧ l.drop i.toNat = x :: l.drop (i + 1).toNat := by
  have hi : i.toNat < l.length := by omega
  refine ⟨l[i.toNat], by rw [geti_nat h0, List.getElem?_eq_getElem hi], List.getElem_mem _, ?_⟩
  rw [List.drop_eq_getElem_cons hi, show (i + 1).toNat = i.toNat + 1 by omega]
theorem LA0 (c : Conf) (s : List Int) (calls : List Call) (which : Int) (ha : ∀ x, x ∈ calls → AO x.ask) (few : calls.length ≤ 5) : ∀ (d n : Nat) (i : Int) (now : List Int) (acc : List Call) (acc2 : List Int), d + 1 < n → 0 ≤ i → ((calls.length : Int) - i).toNat = d → i ≤ calls.length → CS c now → (acc.length : Int) ≤ i → (acc2.length : Int) ≤ i →
    lodgerlaw25_LinzApart_l0 n s calls which now i c acc acc2 = lodgerlaw25_LinzApart_l1 (n - d - 1) s which c (acc ++ bl c (calls.drop i.toNat) i now) (acc2 ++ up d i) := by
  intro d
  induction d with
  | zero =>
    intro n i now acc acc2 hn h1 h2 h3 hc h4 h5
    obtain ⟨m, rfl⟩ : ∃ m, n = m + 1 := ⟨n - 1, by omega⟩
    rw [su0_lodgerlaw25_LinzApart]
    unfold lodgerlaw25_LinzApart_s0
    rw [List.drop_eq_nil_of_le (by omega)]
    refine cf (decide_eq_false (by omega)) ?_
    show _ = lodgerlaw25_LinzApart_l1 (m + 1 - 0 - 1) s which c (acc ++ []) (acc2 ++ [])
    rw [List.append_nil, List.append_nil]; rfl
  | succ d ih =>
    intro n i now acc acc2 hn h1 h2 h3 hc h4 h5
    obtain ⟨m, rfl⟩ : ∃ m, n = m + 1 := ⟨n - 1, by omega⟩
    have hj : i < (calls.length : Int) := by omega
    have hmx : maxList = 137438953472 := rfl
    obtain ⟨x, ex, hx, ed⟩ := dropC h1 hj
    have hax := ha x hx
    have ih := ih m (i + 1) (sm c now x.ask).1 (acc ++ [⟨0, x.ask, 2 * i, 2 * i + 1, (sm c now x.ask).2⟩]) (acc2 ++ [i]) (by omega) (by omega) (by omega) (by omega) (sm_ok hc hax) (by simp only [List.length_append, List.length_singleton]; omega) (by simp only [List.length_append, List.length_singleton]; omega)
    rw [su0_lodgerlaw25_LinzApart]
    unfold lodgerlaw25_LinzApart_s0
    rw [i64_in (2 * i) (by omega), i64_in (2 * i + 1) (by omega), i64_in (i + 1) (by omega), ed]
    refine ct (decide_eq_true hj) (bnd ex (bnd (rSome_eq hc hax) (bnd ex (ct (decide_eq_true (by simp only [List.length_singleton]; omega)) (ct (decide_eq_true (by simp only [List.length_singleton]; omega)) (ih.trans ?_))))))
    rw [List.append_assoc, List.append_assoc, show m + 1 - (d + 1) - 1 = m - d - 1 by omega]
    rfl
theorem pure_LinzApart (c : Conf) (s : List Int) (calls : List Call) (which : Int) (hc : WfV E (.st 1) c) (hs : WfV E (.slice i64) s) (hl : WfV E (.slice (.st 5)) calls) (hw : WfV E (.int .u8) which) : lodgerlaw25_LinzApart c s calls which = some true := by
  have hc := v_conf hc
  have hw : 0 ≤ which ∧ which ≤ 255 := v_int hw
  show lodgerlaw25_LinzApart_e (lodgerlaw25_LinzApart_l0 big) (lodgerlaw25_LinzApart_l1 big) c s calls which = some true
  unfold lodgerlaw25_LinzApart_e
  refine bnd awake25 (cf rfl ?_)
  obtain ⟨b, e, hb⟩ := Fits11_eq hc s
  refine bnd e ?_
  cases b with
  | false => exact ct rfl (bnd awake25 rfl)
  | true =>
  refine cf rfl ?_
  obtain ⟨ok, few, hs⟩ := hb rfl
  obtain ⟨b, e, hb⟩ := Few_eq calls (k := 5) (by omega)
  refine bnd e ?_
  cases b with
  | false => exact ct rfl (bnd awake25 rfl)
  | true =>
  refine cf rfl ?_
  have hf := hb rfl
  have fewc := hf.len
  have hcs : CS c s := ⟨ok, hc.block.base, few, hs⟩
  have ha : ∀ x, x ∈ calls → AO x.ask := fun x hx => ⟨((v_calls hl).2 x hx).ask, (hf.cs x hx).1⟩
  have h0 := LA0 c s calls which ha (by omega) calls.length big 0 s [] [] (by unfold big; omega) (by omega) (by omega) (by omega) hcs (by simp) (by simp)
  refine h0.trans ?_
  obtain ⟨m, hm⟩ : ∃ m, big - calls.length - 1 = m + 1 := ⟨big - calls.length - 2, by unfold big; omega⟩
  rw [hm, su1_lodgerlaw25_LinzApart, List.nil_append, List.nil_append]
  show lodgerlaw25_LinzApart_s1 _ _ s which c (bl c calls 0 s) (up calls.length 0) = some true
  generalize hL : bl c calls 0 s = L
  have hlen : L.length = calls.length := by rw [← hL]; exact bl_len c calls 0 s
  have hap : Ap L := by rw [← hL]; exact bl_ap c calls s
  have hck : ∀ y, y ∈ L → CK y := by rw [← hL]; exact bl_ck c calls 0 s hcs ha
  have hrp : (rp c L (up L.length 0) s).isSome = true := by
    rw [hlen]
    refine rp_up c calls 0 s L (Int.le_refl _) (fun k y h => ?_) hcs ha
    rw [hL] at h
    rw [show (0 : Int).toNat + k = k by omega]; exact h
  rw [← hlen]
  have cf1 : CF c L := ⟨ok, hc.block.base, few, hck⟩
  unfold lodgerlaw25_LinzApart_s1
  obtain ⟨r, e1, hr⟩ := Find_eq25 cf1 hs (by omega)
  have hyes : r.2 = true := hr.all (up L.length 0) trivial (fun n hn => by
    have := (up_mem L.length 0).1 hn
    exact ⟨this.1, by omega, by rw [hap.t n this.1 (by omega)]; omega⟩) (Ap_up hap) hrp
  obtain ⟨_, t, et, _, hwh, _⟩ := hr.yes hyes
  have er : r.1 = up L.length 0 := Ap_only hap hwh
  refine bnd e1 (cf (by rw [hyes]; rfl) (bnd (lodgerref03_Ints_eq _ _ (by rw [er, up_len]; omega)) (cf (by rw [er]; simp) ?_)))
  by_cases q : (L.length : Int) = 0
  · exact ct (beq_iff_eq.2 q) rfl
  refine cf (beq_eq_false_iff_ne.2 q) (cf (beq_eq_false_iff_ne.2 q) ?_)
  rw [i64_in which (by omega)]
  have hpos : 0 < (L.length : Int) := by omega
  have w0 : 0 ≤ Int.tmod which (L.length : Int) := Int.tmod_nonneg _ hw.1
  have w1 : Int.tmod which (L.length : Int) < (L.length : Int) := Int.tmod_lt_of_pos _ hpos
  generalize Int.tmod which (L.length : Int) = v at w0 w1
  obtain ⟨x, ex, hx, _, _⟩ := gC w0 w1
  rw [geti_nat w0] at ex
  refine ct (decide_eq_true ⟨w0, w1⟩) (bnd ex ?_)
  have hck2 : ∀ y, y ∈ L.set v.toNat { x with answer := ⟨2, 0, false, [], []⟩ } → CK y := fun y hy => by
    rcases List.mem_or_eq_of_mem_set hy with z | z
    · exact hck y z
    · rw [z]
      have := hck x hx
      exact ⟨this.ask, this.few, ⟨by show (0 : Int) ≤ 0; decide, by show (0 : Int) ≤ 4294967295; decide⟩, Nat.zero_le _, Nat.zero_le _⟩
  have cf2 : CF c (L.set v.toNat { x with answer := ⟨2, 0, false, [], []⟩ }) := ⟨ok, hc.block.base, few, hck2⟩
  obtain ⟨r2, e2, hr2⟩ := Find_eq25 cf2 hs (by rw [List.length_set]; omega)
  refine bnd e2 ?_
  cases hb2 : r2.2 with
  | false => rfl
  | true =>
    exfalso
    obtain ⟨_, t2, et2, _, hw2, hp2⟩ := hr2.yes hb2
    rw [List.nil_append] at et2
    have hap2 := hap.set ex ⟨2, 0, false, [], []⟩
    have hvl : v < ((L.set v.toNat { x with answer := ⟨2, 0, false, [], []⟩ }).length : Int) := by rw [List.length_set]; exact w1
    have hm2 := hw2.all v w0 hvl (by rw [hap2.t v w0 hvl]; omega)
    rw [et2] at hm2
    have hg : geti (L.set v.toNat { x with answer := ⟨2, 0, false, [], []⟩ }) v = some { x with answer := ⟨2, 0, false, [], []⟩ } := by
      rw [geti_nat w0, List.getElem?_set_self (by omega)]
    obtain ⟨s', hs'⟩ := rp_mem c _ hg t2 s hp2 hm2
    have := lg_two c s' x.ask
    have hs'' : (lg c s' x.ask (fl 2)).2 = true := hs'
    rw [hs''] at this; cases this
end
end Go.Lv.Ld
