import Derived.Test.YtdemlkicbpdkoaaLvP2
namespace Go.Lv.Ld
set_option linter.all false
open Go Go.Lv Go.IntWalk
set_option linter.unusedVariables false
set_option linter.unusedSimpArgs false
theorem awake08 : lodgerlaw08_awake = some true := by kernel_rfl
theorem HF_l0 (w t b : Int) (hw : U64 w) (ht : t ≤ 64) : ∀ (d n : Nat) (i : Int), d < n → 0 ≤ i → (t - i).toNat = d → (∀ k, i ≤ k → k < t → hs w k = true) → lodgerlaw08_HintFind_l0 n w t b i = some (b == 0) := by
  intro d
  induction d with
  | zero =>
    intro n i hn h1 h2 h3
    obtain ⟨m, rfl⟩ : ∃ m, n = m + 1 := ⟨n - 1, by omega⟩
    rw [su0_lodgerlaw08_HintFind]
    unfold lodgerlaw08_HintFind_s0
    simp (disch := omega) only [i64_in, u64_in, u32_in, u8_in, u16_in, Option.bind_some, Option.bind_none, Option.bind_eq_bind, ↓Bool.cond_eq_ite, decide_eq_true_eq, beq_iff_eq, bne_iff_ne, ne_eq, Bool.not_eq_true', Bool.not_eq_true, Bool.not_eq_false', Bool.not_not, decide_eq_false_iff_not, if_pos, if_neg, reduceIte, not_true_eq_false, not_false_eq_true, Bool.false_eq_true, Bool.true_eq_false, reduceCtorEq]
  | succ d ih =>
    intro n i hn h1 h2 h3
    obtain ⟨m, rfl⟩ : ∃ m, n = m + 1 := ⟨n - 1, by omega⟩
    rw [su0_lodgerlaw08_HintFind]
    unfold lodgerlaw08_HintFind_s0
    simp (disch := omega) only [rHas_eq hw h1 (by omega), h3 i (Int.le_refl _) (by omega), i64_in, u64_in, u32_in, u8_in, u16_in, Option.bind_some, Option.bind_none, Option.bind_eq_bind, ↓Bool.cond_eq_ite, decide_eq_true_eq, beq_iff_eq, bne_iff_ne, ne_eq, Bool.not_eq_true', Bool.not_eq_true, Bool.not_eq_false', Bool.not_not, decide_eq_false_iff_not, if_pos, if_neg, reduceIte, not_true_eq_false, not_false_eq_true, Bool.false_eq_true, Bool.true_eq_false, reduceCtorEq]
    exact ih m (i + 1) (by omega) (by omega) (by omega) fun k q1 q2 => h3 k (by omega) q2
theorem HF_l1 (w f t b : Int) (hw : U64 w) (hf : 0 ≤ f) (ht : t ≤ 64) (hb1 : f ≤ b) (hb2 : b < t) (hb3 : hs w b = false) : ∀ (d n : Nat) (i : Int), d < n → f ≤ i → (b - i).toNat = d → (∀ k, f ≤ k → k < b → hs w k = true) → lodgerlaw08_HintFind_l1 n w f t b i = some true := by
  intro d
  induction d with
  | zero =>
    intro n i hn h1 h2 h3
    obtain ⟨m, rfl⟩ : ∃ m, n = m + 1 := ⟨n - 1, by omega⟩
    rw [su1_lodgerlaw08_HintFind]
    unfold lodgerlaw08_HintFind_s1
    simp (disch := omega) only [rSet_eq hw (show 0 ≤ b by omega) (by omega), rHas_eq hw (show 0 ≤ b by omega) (by omega), Find_eq (st_u hw (show 0 ≤ b by omega) (by omega)) hf (show t ≤ 1000000000000000000 by omega), hb3, i64_in, u64_in, u32_in, u8_in, u16_in, Option.bind_some, Option.bind_none, Option.bind_eq_bind, ↓Bool.cond_eq_ite, decide_eq_true_eq, beq_iff_eq, bne_iff_ne, ne_eq, Bool.not_eq_true', Bool.not_eq_true, Bool.not_eq_false', Bool.not_not, decide_eq_false_iff_not, if_pos, if_neg, reduceIte, not_true_eq_false, not_false_eq_true, Bool.false_eq_true, Bool.true_eq_false, reduceCtorEq]
    cases hq : (fb (st w b) f t).2
    · rfl
    · obtain ⟨c1, c2, c3, c4⟩ := fb_yes hq
      simp (disch := omega) only [i64_in, u64_in, u32_in, u8_in, u16_in, Option.bind_some, Option.bind_none, Option.bind_eq_bind, ↓Bool.cond_eq_ite, decide_eq_true_eq, beq_iff_eq, bne_iff_ne, ne_eq, Bool.not_eq_true', Bool.not_eq_true, Bool.not_eq_false', Bool.not_not, decide_eq_false_iff_not, if_pos, if_neg, reduceIte, not_true_eq_false, not_false_eq_true, Bool.false_eq_true, Bool.true_eq_false, reduceCtorEq]
      rw [hs_st (by omega) (by omega)] at c3
      simp only [Bool.or_eq_false_iff, decide_eq_false_iff_not] at c3
      by_cases hlt : (fb (st w b) f t).1 < b
      · rw [h3 _ c1 hlt] at c3
        cases c3.1
      · exact congrArg some (decide_eq_true (by omega))
  | succ d ih =>
    intro n i hn h1 h2 h3
    obtain ⟨m, rfl⟩ : ∃ m, n = m + 1 := ⟨n - 1, by omega⟩
    rw [su1_lodgerlaw08_HintFind]
    unfold lodgerlaw08_HintFind_s1
    simp (disch := omega) only [rHas_eq hw (show 0 ≤ i by omega) (by omega), h3 i h1 (by omega), i64_in, u64_in, u32_in, u8_in, u16_in, Option.bind_some, Option.bind_none, Option.bind_eq_bind, ↓Bool.cond_eq_ite, decide_eq_true_eq, beq_iff_eq, bne_iff_ne, ne_eq, Bool.not_eq_true', Bool.not_eq_true, Bool.not_eq_false', Bool.not_not, decide_eq_false_iff_not, if_pos, if_neg, reduceIte, not_true_eq_false, not_false_eq_true, Bool.false_eq_true, Bool.true_eq_false, reduceCtorEq]
    exact ih m (i + 1) (by omega) (by omega) (by omega) h3
theorem law_HintFind (w a b : Int) (hw : U64 w) (ha : 0 ≤ a) (hb : 0 ≤ b) (ha2 : a ≤ 255) (hb2 : b ≤ 255) : lodgerlaw08_HintFind w a b = some true := by
  unfold lodgerlaw08_HintFind lodgerlaw08_HintFind_n lodgerlaw08_HintFind_e
  have m1 : a.tmod 65 = a % 65 := Int.tmod_eq_emod_of_nonneg ha
  have m2 : b.tmod 65 = b % 65 := Int.tmod_eq_emod_of_nonneg hb
  have hf : 0 ≤ a % 65 ∧ a % 65 ≤ 64 := by omega
  have ht : 0 ≤ b % 65 ∧ b % 65 ≤ 64 := by omega
  rw [awake08, m1, m2]
  generalize a % 65 = f at *
  generalize b % 65 = t at *
  simp (disch := omega) only [Find_eq hw hf.1 (show t ≤ 1000000000000000000 by omega), i64_in, u64_in, u32_in, u8_in, u16_in, Option.bind_some, Option.bind_none, Option.bind_eq_bind, ↓Bool.cond_eq_ite, decide_eq_true_eq, beq_iff_eq, bne_iff_ne, ne_eq, Bool.not_eq_true', Bool.not_eq_true, Bool.not_eq_false', Bool.not_not, decide_eq_false_iff_not, if_pos, if_neg, reduceIte, not_true_eq_false, not_false_eq_true, Bool.false_eq_true, Bool.true_eq_false, reduceCtorEq]
  cases hq : (fb w f t).2
  · simp (disch := omega) only [i64_in, u64_in, u32_in, u8_in, u16_in, Option.bind_some, Option.bind_none, Option.bind_eq_bind, ↓Bool.cond_eq_ite, decide_eq_true_eq, beq_iff_eq, bne_iff_ne, ne_eq, Bool.not_eq_true', Bool.not_eq_true, Bool.not_eq_false', Bool.not_not, decide_eq_false_iff_not, if_pos, if_neg, reduceIte, not_true_eq_false, not_false_eq_true, Bool.false_eq_true, Bool.true_eq_false, reduceCtorEq]
    rw [HF_l0 w t _ hw ht.2 (t - f).toNat big f (big_lt (by omega)) hf.1 rfl (fb_no hq).2, (fb_no hq).1]
    rfl
  · simp (disch := omega) only [i64_in, u64_in, u32_in, u8_in, u16_in, Option.bind_some, Option.bind_none, Option.bind_eq_bind, ↓Bool.cond_eq_ite, decide_eq_true_eq, beq_iff_eq, bne_iff_ne, ne_eq, Bool.not_eq_true', Bool.not_eq_true, Bool.not_eq_false', Bool.not_not, decide_eq_false_iff_not, if_pos, if_neg, reduceIte, not_true_eq_false, not_false_eq_true, Bool.false_eq_true, Bool.true_eq_false, reduceCtorEq]
    obtain ⟨c1, c2, c3, c4⟩ := fb_yes hq
    exact HF_l1 w f t _ hw hf.1 ht.2 c1 c2 c3 _ big f (big_lt (by omega)) (Int.le_refl _) rfl c4
theorem pure_HintFind (w a b : Int) (hw : WfV E u64 w) (ha : WfV E (.int .u8) a) (hb : WfV E (.int .u8) b) : lodgerlaw08_HintFind w a b = some true :=
  law_HintFind w a b (v_int hw) (v_int (k := .u8) ha).1 (v_int (k := .u8) hb).1 (v_int (k := .u8) ha).2 (v_int (k := .u8) hb).2
end Go.Lv.Ld
