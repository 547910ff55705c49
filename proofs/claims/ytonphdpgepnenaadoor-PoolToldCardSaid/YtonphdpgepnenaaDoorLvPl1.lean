import Derived.Test.YtonphdpgepnenaaDoorLvP0
import Derived.Test.YtonphdpgepnenaaDoorLvO5PoolTold
import Derived.Test.YtonphdpgepnenaaDoorLvArg
namespace Go.Lv.Ld
set_option linter.all false
noncomputable section
open Go Go.Lv Go.IntWalk

theorem big_lt {d : Nat} (h : d ≤ 4000000000000000000) : d < big := by unfold big; omega
def gt (l : List Int) (i : Int) : Int := l.getD i.toNat 0
theorem geti_eq {l : List Int} {i : Int} (h0 : 0 ≤ i) (h : i < (l.length : Int)) : geti l i = some (gt l i) := by
  unfold geti gt
  rw [if_pos h0, List.getElem?_eq_getElem (show i.toNat < l.length by omega), List.getD_eq_getElem?_getD, List.getElem?_eq_getElem (show i.toNat < l.length by omega)]; rfl
theorem get?_gt {l : List Int} {i : Int} (h0 : 0 ≤ i) (h : i < (l.length : Int)) : l[i.toNat]? = some (gt l i) := by
  have := geti_eq h0 h
  unfold geti at this
  rwa [if_pos h0] at this
theorem list_ext {a b : List Int} (hl : a.length = b.length) (h : ∀ i : Int, 0 ≤ i → i < (a.length : Int) → gt a i = gt b i) : a = b := by
  apply List.ext_getElem? 
  intro i
  by_cases hi : i < a.length
  · have := h i (by omega) (by omega)
    have e1 := get?_gt (l := a) (i := i) (by omega) (by omega)
    have e2 := get?_gt (l := b) (i := i) (by omega) (by omega)
    simp only [Int.toNat_natCast] at e1 e2
    rw [e1, e2, this]
  · rw [List.getElem?_eq_none (by omega), List.getElem?_eq_none (by omega)]
theorem lodgerref08_Addrs_l (a b : List Int) (hl : a.length = b.length) : ∀ (d n : Nat) (i : Int), d < n → 0 ≤ i → ((a.length : Int) - i).toNat = d → i ≤ a.length → a.length ≤ 4000000000000000000 →
    (∀ j : Int, 0 ≤ j → j < i → gt a j = gt b j) → lodgerref08_Addrs_l0 n a b i = some (decide (a = b)) := by
  intro d
  induction d with
  | zero =>
    intro n i hn h1 h2 h3 h4 h5
    obtain ⟨m, rfl⟩ : ∃ m, n = m + 1 := ⟨n - 1, by omega⟩
    rw [su0_lodgerref08_Addrs]
    unfold lodgerref08_Addrs_s0
    have : a = b := list_ext hl fun i q1 q2 => h5 i q1 (by omega)
    clear h5
    simp (disch := omega) only [i64_in, u64_in, u32_in, u8_in, u16_in, Option.bind_some, Option.bind_none, Option.bind_eq_bind, ↓Bool.cond_eq_ite, decide_eq_true_eq, beq_iff_eq, bne_iff_ne, ne_eq, Bool.not_eq_true', Bool.not_eq_true, Bool.not_eq_false', Bool.not_not, decide_eq_false_iff_not, if_pos, if_neg, reduceIte, not_true_eq_false, not_false_eq_true, Bool.false_eq_true, Bool.true_eq_false, reduceCtorEq]
    rw [decide_eq_true this]
  | succ d ih =>
    intro n i hn h1 h2 h3 h4 h5
    obtain ⟨m, rfl⟩ : ∃ m, n = m + 1 := ⟨n - 1, by omega⟩
    rw [su0_lodgerref08_Addrs]
    unfold lodgerref08_Addrs_s0
    have hx := ih m (i + 1) (by omega) (by omega) (by omega) (by omega) h4
    by_cases c : gt a i = gt b i
    · have hy := hx fun j q1 q2 => by
        by_cases e : j = i
        · rw [e, c]
        · exact h5 j q1 (by omega)
      clear h5 hx ih
      simp (disch := omega) only [geti_eq h1 (show i < (a.length : Int) by omega), geti_eq h1 (show i < (b.length : Int) by omega), c, i64_in, u64_in, u32_in, u8_in, u16_in, Option.bind_some, Option.bind_none, Option.bind_eq_bind, ↓Bool.cond_eq_ite, decide_eq_true_eq, beq_iff_eq, bne_iff_ne, ne_eq, Bool.not_eq_true', Bool.not_eq_true, Bool.not_eq_false', Bool.not_not, decide_eq_false_iff_not, if_pos, if_neg, reduceIte, not_true_eq_false, not_false_eq_true, Bool.false_eq_true, Bool.true_eq_false, reduceCtorEq]
      exact hy
    · have : a ≠ b := fun e => c (by rw [e])
      clear h5 hx ih
      simp (disch := omega) only [geti_eq h1 (show i < (a.length : Int) by omega), geti_eq h1 (show i < (b.length : Int) by omega), c, i64_in, u64_in, u32_in, u8_in, u16_in, Option.bind_some, Option.bind_none, Option.bind_eq_bind, ↓Bool.cond_eq_ite, decide_eq_true_eq, beq_iff_eq, bne_iff_ne, ne_eq, Bool.not_eq_true', Bool.not_eq_true, Bool.not_eq_false', Bool.not_not, decide_eq_false_iff_not, if_pos, if_neg, reduceIte, not_true_eq_false, not_false_eq_true, Bool.false_eq_true, Bool.true_eq_false, reduceCtorEq]
      rw [decide_eq_false this]
theorem lodgerref08_Addrs_eq (a b : List Int) (h : a.length ≤ 4000000000000000000) : lodgerref08_Addrs a b = some (decide (a = b)) := by
  unfold lodgerref08_Addrs lodgerref08_Addrs_n lodgerref08_Addrs_e
  by_cases c : (a.length : Int) = b.length
  · simp (disch := omega) only [c, i64_in, u64_in, u32_in, u8_in, u16_in, Option.bind_some, Option.bind_none, Option.bind_eq_bind, ↓Bool.cond_eq_ite, decide_eq_true_eq, beq_iff_eq, bne_iff_ne, ne_eq, Bool.not_eq_true', Bool.not_eq_true, Bool.not_eq_false', Bool.not_not, decide_eq_false_iff_not, if_pos, if_neg, reduceIte, not_true_eq_false, not_false_eq_true, Bool.false_eq_true, Bool.true_eq_false, reduceCtorEq]
    exact lodgerref08_Addrs_l a b (by omega) a.length big 0 (big_lt (by omega)) (by omega) (by omega) (by omega) h fun j q1 q2 => by omega
  · simp (disch := omega) only [c, i64_in, u64_in, u32_in, u8_in, u16_in, Option.bind_some, Option.bind_none, Option.bind_eq_bind, ↓Bool.cond_eq_ite, decide_eq_true_eq, beq_iff_eq, bne_iff_ne, ne_eq, Bool.not_eq_true', Bool.not_eq_true, Bool.not_eq_false', Bool.not_not, decide_eq_false_iff_not, if_pos, if_neg, reduceIte, not_true_eq_false, not_false_eq_true, Bool.false_eq_true, Bool.true_eq_false, reduceCtorEq]
    rw [decide_eq_false]
    intro e; exact c (by rw [e])
theorem lodgerref08_Errs_l (a b : List Int) (hl : a.length = b.length) : ∀ (d n : Nat) (i : Int), d < n → 0 ≤ i → ((a.length : Int) - i).toNat = d → i ≤ a.length → a.length ≤ 4000000000000000000 →
    (∀ j : Int, 0 ≤ j → j < i → gt a j = gt b j) → lodgerref08_Errs_l0 n a b i = some (decide (a = b)) := by
  intro d
  induction d with
  | zero =>
    intro n i hn h1 h2 h3 h4 h5
    obtain ⟨m, rfl⟩ : ∃ m, n = m + 1 := ⟨n - 1, by omega⟩
    rw [su0_lodgerref08_Errs]
    unfold lodgerref08_Errs_s0
    have : a = b := list_ext hl fun i q1 q2 => h5 i q1 (by omega)
    clear h5
    simp (disch := omega) only [i64_in, u64_in, u32_in, u8_in, u16_in, Option.bind_some, Option.bind_none, Option.bind_eq_bind, ↓Bool.cond_eq_ite, decide_eq_true_eq, beq_iff_eq, bne_iff_ne, ne_eq, Bool.not_eq_true', Bool.not_eq_true, Bool.not_eq_false', Bool.not_not, decide_eq_false_iff_not, if_pos, if_neg, reduceIte, not_true_eq_false, not_false_eq_true, Bool.false_eq_true, Bool.true_eq_false, reduceCtorEq]
    rw [decide_eq_true this]
  | succ d ih =>
    intro n i hn h1 h2 h3 h4 h5
    obtain ⟨m, rfl⟩ : ∃ m, n = m + 1 := ⟨n - 1, by omega⟩
    rw [su0_lodgerref08_Errs]
    unfold lodgerref08_Errs_s0
    have hx := ih m (i + 1) (by omega) (by omega) (by omega) (by omega) h4
    by_cases c : gt a i = gt b i
    · have hy := hx fun j q1 q2 => by
        by_cases e : j = i
        · rw [e, c]
        · exact h5 j q1 (by omega)
      clear h5 hx ih
      simp (disch := omega) only [geti_eq h1 (show i < (a.length : Int) by omega), geti_eq h1 (show i < (b.length : Int) by omega), c, i64_in, u64_in, u32_in, u8_in, u16_in, Option.bind_some, Option.bind_none, Option.bind_eq_bind, ↓Bool.cond_eq_ite, decide_eq_true_eq, beq_iff_eq, bne_iff_ne, ne_eq, Bool.not_eq_true', Bool.not_eq_true, Bool.not_eq_false', Bool.not_not, decide_eq_false_iff_not, if_pos, if_neg, reduceIte, not_true_eq_false, not_false_eq_true, Bool.false_eq_true, Bool.true_eq_false, reduceCtorEq]
      exact hy
    · have : a ≠ b := fun e => c (by rw [e])
      clear h5 hx ih
      simp (disch := omega) only [geti_eq h1 (show i < (a.length : Int) by omega), geti_eq h1 (show i < (b.length : Int) by omega), c, i64_in, u64_in, u32_in, u8_in, u16_in, Option.bind_some, Option.bind_none, Option.bind_eq_bind, ↓Bool.cond_eq_ite, decide_eq_true_eq, beq_iff_eq, bne_iff_ne, ne_eq, Bool.not_eq_true', Bool.not_eq_true, Bool.not_eq_false', Bool.not_not, decide_eq_false_iff_not, if_pos, if_neg, reduceIte, not_true_eq_false, not_false_eq_true, Bool.false_eq_true, Bool.true_eq_false, reduceCtorEq]
      rw [decide_eq_false this]
theorem lodgerref08_Errs_eq (a b : List Int) (h : a.length ≤ 4000000000000000000) : lodgerref08_Errs a b = some (decide (a = b)) := by
  unfold lodgerref08_Errs lodgerref08_Errs_n lodgerref08_Errs_e
  by_cases c : (a.length : Int) = b.length
  · simp (disch := omega) only [c, i64_in, u64_in, u32_in, u8_in, u16_in, Option.bind_some, Option.bind_none, Option.bind_eq_bind, ↓Bool.cond_eq_ite, decide_eq_true_eq, beq_iff_eq, bne_iff_ne, ne_eq, Bool.not_eq_true', Bool.not_eq_true, Bool.not_eq_false', Bool.not_not, decide_eq_false_iff_not, if_pos, if_neg, reduceIte, not_true_eq_false, not_false_eq_true, Bool.false_eq_true, Bool.true_eq_false, reduceCtorEq]
    exact lodgerref08_Errs_l a b (by omega) a.length big 0 (big_lt (by omega)) (by omega) (by omega) (by omega) h fun j q1 q2 => by omega
  · simp (disch := omega) only [c, i64_in, u64_in, u32_in, u8_in, u16_in, Option.bind_some, Option.bind_none, Option.bind_eq_bind, ↓Bool.cond_eq_ite, decide_eq_true_eq, beq_iff_eq, bne_iff_ne, ne_eq, Bool.not_eq_true', Bool.not_eq_true, Bool.not_eq_false', Bool.not_not, decide_eq_false_iff_not, if_pos, if_neg, reduceIte, not_true_eq_false, not_false_eq_true, Bool.false_eq_true, Bool.true_eq_false, reduceCtorEq]
    rw [decide_eq_false]
    intro e; exact c (by rw [e])
theorem Answers_refl {a : Answer} (h : a.addrs.length ≤ 100000) (h2 : a.errs.length ≤ 100000) : lodgerref08_Answers a a = some true := by
  unfold lodgerref08_Answers
  simp only [lodgerref08_Addrs_eq _ _ (show a.addrs.length ≤ 4000000000000000000 by omega), lodgerref08_Errs_eq _ _ (show a.errs.length ≤ 4000000000000000000 by omega), decide_true, beq_self_eq_true, Option.bind_some, Option.bind_none, Option.bind_eq_bind, ↓Bool.cond_eq_ite, decide_eq_true_eq, beq_iff_eq, bne_iff_ne, ne_eq, Bool.not_eq_true', Bool.not_eq_true, Bool.not_eq_false', Bool.not_not, decide_eq_false_iff_not, reduceIte, not_true_eq_false, not_false_eq_true, Bool.false_eq_true, Bool.true_eq_false, reduceCtorEq]
theorem awake21 : lodgerlaw21_awake = some true := by kernel_rfl
theorem Told_batch (o : Oq) (es : List Int) (x : Int) (ad : Int) (az : List Int) (e a : Int) (u : Bool) (l : List Int) (h : es.length ≤ 100000) : pool_Told { o with ask := ⟨4, ad, az⟩, answer := ⟨e, a, u, l, es ++ [x]⟩ } = some ⟨x, 0, false, [], []⟩ := by
  unfold pool_Told
  have hl : (es ++ [x]).length = es.length + 1 := by simp
  have e0 : IntKind.wrap .i64 (((es ++ [x]).length : Int) - 1) = (es.length : Int) := by rw [hl, i64_in ((es.length + 1 : Nat) - 1 : Int) (by omega)]; omega
  refine ct (by simp) (ct (by simp) ?_)
  refine bnd (a := x) ?_ rfl
  show geti (es ++ [x]) (IntKind.wrap .i64 (((es ++ [x]).length : Int) - 1)) = _
  rw [e0]
  unfold geti
  rw [if_pos (by omega), Int.toNat_natCast]
  simp
theorem pure_PoolTold (o : Oq) (m : Int) (ho : WfV E (.st 4) o) (hm : WfV E (.int .u8) m) : lodgerlaw21_PoolTold o m = some true := by
  unfold lodgerlaw21_PoolTold
  refine bnd awake21 (cf rfl ?_)
  by_cases h1 : (o.answer.errs.length : Int) > 300
  · exact ct (decide_eq_true h1) (bnd awake21 rfl)
  refine cf (decide_eq_false h1) ?_
  by_cases h2 : (o.answer.addrs.length : Int) > 300
  · exact ct (decide_eq_true h2) (bnd awake21 rfl)
  refine cf (decide_eq_false h2) ?_
  by_cases h3 : (o.seen.length : Int) > 300
  · exact ct (decide_eq_true h3) (bnd awake21 rfl)
  refine cf (decide_eq_false h3) ?_
  by_cases h4 : (o.ask.addrs.length : Int) > 300
  · exact ct (decide_eq_true h4) (bnd awake21 rfl)
  refine cf (decide_eq_false h4) ?_
  have hmx : maxList = 137438953472 := rfl
  refine ct (decide_eq_true (by omega)) (ct (decide_eq_true (by simp only [List.length_singleton]; omega)) ?_)
  refine bnd (Told_batch o _ _ _ _ _ _ _ _ (by omega)) (bnd (Answers_refl (by simp) (by simp)) (ct rfl ?_))
  refine bnd (a := o.answer) rfl (bnd (Answers_refl (by omega) (by omega)) (ct rfl ?_))
  refine bnd (a := ({ o.answer with errs := [] } : Answer)) rfl (bnd (Answers_refl (by simp only; omega) (by simp)) rfl)
end
end Go.Lv.Ld
