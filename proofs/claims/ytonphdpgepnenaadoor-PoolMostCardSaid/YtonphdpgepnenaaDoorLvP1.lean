import Derived.Test.YtonphdpgepnenaaDoorLvP0
import Derived.Test.YtonphdpgepnenaaDoorLvD1
namespace Go.Lv.Ld
set_option linter.all false
noncomputable section
open Go Go.Lv Go.IntWalk
set_option linter.unusedVariables false
set_option linter.unusedSimpArgs false

theorem ofInt_nat {a : Int} (ha : U64 a) : (BitVec.ofInt 64 a).toNat = a.toNat := by
  unfold U64 at ha
  rw [BitVec.toNat_ofInt]
  have : a % ((2 ^ 64 : Nat) : Int) = a := Int.emod_eq_of_lt ha.1 (by omega)
  rw [this]
theorem and_u {a b : Int} (ha : U64 a) (hb : U64 b) : bit_and .u64 a b = ((a.toNat &&& b.toNat : Nat) : Int) := by
  unfold bit_and
  show IntKind.u64.wrap ((BitVec.ofInt 64 a &&& BitVec.ofInt 64 b).toNat : Nat) = _
  rw [BitVec.toNat_and, ofInt_nat ha, ofInt_nat hb]
  have := @Nat.and_le_left a.toNat b.toNat
  unfold U64 at ha
  exact u64_in _ (by omega)
theorem or_u {a b : Int} (ha : U64 a) (hb : U64 b) : bit_or .u64 a b = ((a.toNat ||| b.toNat : Nat) : Int) := by
  unfold bit_or
  show IntKind.u64.wrap ((BitVec.ofInt 64 a ||| BitVec.ofInt 64 b).toNat : Nat) = _
  rw [BitVec.toNat_or, ofInt_nat ha, ofInt_nat hb]
  unfold U64 at ha hb
  have := @Nat.or_lt_two_pow a.toNat b.toNat 64 (by omega) (by omega)
  exact u64_in _ (by omega)
theorem andNot_u {a b : Int} (ha : U64 a) (hb : U64 b) : bit_andNot .u64 a b = ((a.toNat &&& (18446744073709551615 ^^^ b.toNat) : Nat) : Int) := by
  unfold bit_andNot
  show IntKind.u64.wrap ((BitVec.ofInt 64 a &&& ~~~ BitVec.ofInt 64 b).toNat : Nat) = _
  have hx : (~~~ BitVec.ofInt 64 b).toNat = 18446744073709551615 ^^^ b.toNat := by
    have e : ~~~ BitVec.ofInt 64 b = BitVec.allOnes 64 ^^^ BitVec.ofInt 64 b := by rw [BitVec.not_def]
    rw [e, BitVec.toNat_xor, ofInt_nat hb]; rfl
  rw [BitVec.toNat_and, ofInt_nat ha, hx]
  have := @Nat.and_le_left a.toNat (18446744073709551615 ^^^ b.toNat)
  unfold U64 at ha
  exact u64_in _ (by omega)
theorem shr_u {a i : Int} (ha : U64 a) (hi : 0 ≤ i) : shr .u64 a i = (a.toNat / 2 ^ min i.toNat 64 : Nat) := by
  unfold shr
  show a.fdiv (2 ^ min i.toNat 64) = _
  unfold U64 at ha
  obtain ⟨n, rfl⟩ := Int.eq_ofNat_of_zero_le ha.1
  rw [Int.fdiv_eq_ediv_of_nonneg _ (Int.le_of_lt (Int.pow_pos (by omega)))]
  simp
theorem shr_has {w i : Int} (hw : U64 w) (hi : 0 ≤ i) : (bit_and .u64 (shr .u64 w i) 1 == 1) = hs w i := by
  have hwn : w.toNat < 2 ^ 64 := by unfold U64 at hw; omega
  have hd := Nat.div_le_self w.toNat (2 ^ min i.toNat 64)
  have hu : U64 ((w.toNat / 2 ^ min i.toNat 64 : Nat) : Int) := by
    generalize w.toNat / 2 ^ min i.toNat 64 = q at hd
    unfold U64 at *; omega
  rw [shr_u hw hi, and_u hu (by unfold U64; omega), Int.toNat_natCast, show (1 : Int).toNat = 1 from rfl, Nat.and_one_is_mod]
  simp only [hs_eq]
  rw [Nat.testBit_eq_decide_div_mod_eq]
  by_cases h : i.toNat ≤ 64
  · rw [Nat.min_eq_left h]
    generalize w.toNat / 2 ^ i.toNat = q
    rw [Bool.eq_iff_iff]; simp; omega
  · rw [Nat.min_eq_right (by omega)]
    have h1 : w.toNat / 2 ^ 64 = 0 := Nat.div_eq_of_lt hwn
    have h2 : w.toNat < 2 ^ i.toNat := Nat.lt_of_lt_of_le hwn (Nat.pow_le_pow_right (by omega) (by omega))
    rw [h1, Nat.div_eq_of_lt h2]; rfl
theorem shl_u {i : Int} (hi : 0 ≤ i) (h : i < 64) : shl .u64 1 i = ((2 ^ i.toNat : Nat) : Int) := by
  unfold shl
  show IntKind.u64.wrap (1 * 2 ^ min i.toNat 64) = _
  rw [Nat.min_eq_left (by omega), Int.one_mul]
  have := pow_64 h
  have := pow_pos' i
  rw [u64_in _ (by omega)]; norm_cast
theorem pow_u {i : Int} (h : i < 64) : U64 ((2 ^ i.toNat : Nat) : Int) := by
  have := pow_64 h
  have h2 : ((2 : Int) ^ i.toNat) = ((2 ^ i.toNat : Nat) : Int) := by norm_cast
  have := pow_pos' i
  unfold U64; omega
def I64 (n : Int) : Prop := -9223372036854775808 ≤ n ∧ n ≤ 9223372036854775807

theorem pow_63 {i : Int} (h : i < 63) : (2 : Int) ^ i.toNat ≤ 4611686018427387904 := by
  have : (2 : Nat) ^ i.toNat ≤ 2 ^ 62 := Nat.pow_le_pow_right (by omega) (by omega)
  exact (show (2 : Int) ^ i.toNat = ((2 ^ i.toNat : Nat) : Int) by norm_cast) ▸ (Int.ofNat_le.2 this : ((2 ^ i.toNat : Nat) : Int) ≤ ((2 ^ 62 : Nat) : Int))
theorem Has_eq {w i : Int} (hw : U64 w) (hi : 0 ≤ i) (h : i ≤ 9223372036854775807) : bits_Has w i = some (hs w i) := by
  unfold bits_Has
  simp (disch := omega) only [shr_has hw hi, i64_in, u64_in, u32_in, u8_in, u16_in, Option.bind_some, Option.bind_none, Option.bind_eq_bind, ↓Bool.cond_eq_ite, decide_eq_true_eq, beq_iff_eq, bne_iff_ne, ne_eq, Bool.not_eq_true', Bool.not_eq_true, Bool.not_eq_false', Bool.not_not, decide_eq_false_iff_not, if_pos, if_neg, reduceIte, not_true_eq_false, not_false_eq_true, Bool.false_eq_true, Bool.true_eq_false, reduceCtorEq]
theorem Set_eq {w i : Int} (hw : U64 w) (hi : 0 ≤ i) (h : i < 64) : bits_Set w i = some (st w i) := by
  unfold bits_Set
  simp (disch := omega) only [shl_u hi h, or_u hw (pow_u h), Int.toNat_natCast, st_eq, i64_in, u64_in, u32_in, u8_in, u16_in, Option.bind_some, Option.bind_none, Option.bind_eq_bind, ↓Bool.cond_eq_ite, decide_eq_true_eq, beq_iff_eq, bne_iff_ne, ne_eq, Bool.not_eq_true', Bool.not_eq_true, Bool.not_eq_false', Bool.not_not, decide_eq_false_iff_not, if_pos, if_neg, reduceIte, not_true_eq_false, not_false_eq_true, Bool.false_eq_true, Bool.true_eq_false, reduceCtorEq]
theorem Clear_eq {w i : Int} (hw : U64 w) (hi : 0 ≤ i) (h : i < 64) : bits_Clear w i = some (cl w i) := by
  unfold bits_Clear
  simp (disch := omega) only [shl_u hi h, andNot_u hw (pow_u h), Int.toNat_natCast, cl_eq, i64_in, u64_in, u32_in, u8_in, u16_in, Option.bind_some, Option.bind_none, Option.bind_eq_bind, ↓Bool.cond_eq_ite, decide_eq_true_eq, beq_iff_eq, bne_iff_ne, ne_eq, Bool.not_eq_true', Bool.not_eq_true, Bool.not_eq_false', Bool.not_not, decide_eq_false_iff_not, if_pos, if_neg, reduceIte, not_true_eq_false, not_false_eq_true, Bool.false_eq_true, Bool.true_eq_false, reduceCtorEq]

/-- The powers are counted. -/
theorem Pow_l (i : Int) (h0 : 0 ≤ i) (h : i < 64) : ∀ (d n : Nat) (k : Int), d < n → 0 ≤ k → k ≤ i → (i - k).toNat ≤ d → lodgerref01_Pow_l0 n i (2 ^ k.toNat) k = some (2 ^ i.toNat) := by
  intro d
  induction d with
  | zero =>
    intro n k hn h1 h2 h3
    obtain ⟨m, rfl⟩ : ∃ m, n = m + 1 := ⟨n - 1, by omega⟩
    have : k = i := by omega
    subst this
    unfold lodgerref01_Pow_l0 lodgerref01_Pow_s0
    simp (disch := omega) only [i64_in, u64_in, u32_in, u8_in, u16_in, Option.bind_some, Option.bind_none, Option.bind_eq_bind, ↓Bool.cond_eq_ite, decide_eq_true_eq, beq_iff_eq, bne_iff_ne, ne_eq, Bool.not_eq_true', Bool.not_eq_true, Bool.not_eq_false', Bool.not_not, decide_eq_false_iff_not, if_pos, if_neg, reduceIte, not_true_eq_false, not_false_eq_true, Bool.false_eq_true, Bool.true_eq_false, reduceCtorEq]
  | succ d ih =>
    intro n k hn h1 h2 h3
    obtain ⟨m, rfl⟩ : ∃ m, n = m + 1 := ⟨n - 1, by omega⟩
    unfold lodgerref01_Pow_l0 lodgerref01_Pow_s0
    by_cases hk : k < i
    · have hp := @pow_63 k (by omega)
      have hq := pow_pos' k
      have e : (2 : Int) ^ k.toNat * 2 = 2 ^ (k + 1).toNat := by
        rw [show (k + 1).toNat = k.toNat + 1 by omega, Int.pow_succ]
      have hr : 0 ≤ (2 : Int) ^ (k + 1).toNat ∧ (2 : Int) ^ (k + 1).toNat ≤ 18446744073709551615 := by
        rw [← e]
        exact ⟨Int.mul_nonneg (Int.le_of_lt hq) (by decide), Int.le_trans (Int.mul_le_mul_of_nonneg_right hp (by decide)) (by decide)⟩
      simp (disch := omega) only [i64_in, u64_in, u32_in, u8_in, u16_in, Option.bind_some, Option.bind_none, Option.bind_eq_bind, ↓Bool.cond_eq_ite, decide_eq_true_eq, beq_iff_eq, bne_iff_ne, ne_eq, Bool.not_eq_true', Bool.not_eq_true, Bool.not_eq_false', Bool.not_not, decide_eq_false_iff_not, if_pos, if_neg, reduceIte, not_true_eq_false, not_false_eq_true, Bool.false_eq_true, Bool.true_eq_false, reduceCtorEq]
      rw [e]
      exact ih m (k + 1) (by omega) (by omega) (by omega) (by omega)
    · have : k = i := by omega
      subst this
      simp (disch := omega) only [i64_in, u64_in, u32_in, u8_in, u16_in, Option.bind_some, Option.bind_none, Option.bind_eq_bind, ↓Bool.cond_eq_ite, decide_eq_true_eq, beq_iff_eq, bne_iff_ne, ne_eq, Bool.not_eq_true', Bool.not_eq_true, Bool.not_eq_false', Bool.not_not, decide_eq_false_iff_not, if_pos, if_neg, reduceIte, not_true_eq_false, not_false_eq_true, Bool.false_eq_true, Bool.true_eq_false, reduceCtorEq]
theorem big_lt {d : Nat} (h : d ≤ 4000000000000000000) : d < big := by unfold big; omega
theorem Pow_eq {i : Int} (h0 : 0 ≤ i) (h : i < 64) : lodgerref01_Pow i = some (2 ^ i.toNat) :=
  Pow_l i h0 h i.toNat big 0 (big_lt (by omega)) (by omega) h0 (by omega)
theorem rHas_eq {w i : Int} (hw : U64 w) (h0 : 0 ≤ i) (h : i < 64) : lodgerref01_Has w i = some (hs w i) := by
  unfold lodgerref01_Has
  have hp := pow_64 h
  have hq := pow_pos' i
  rw [Pow_eq h0 h]
  have hq2 : 0 ≤ w / 2 ^ i.toNat := Int.ediv_nonneg hw.1 (by omega)
  unfold U64 at hw
  have e : IntKind.u64.wrap (w.tdiv (2 ^ i.toNat)) = w / 2 ^ i.toNat := u64_quo w _ ⟨hw.1, hw.2, hq⟩
  simp (disch := omega) only [e, i64_in, u64_in, u32_in, u8_in, u16_in, Option.bind_some, Option.bind_none, Option.bind_eq_bind, ↓Bool.cond_eq_ite, decide_eq_true_eq, beq_iff_eq, bne_iff_ne, ne_eq, Bool.not_eq_true', Bool.not_eq_true, Bool.not_eq_false', Bool.not_not, decide_eq_false_iff_not, if_pos, if_neg, reduceIte, not_true_eq_false, not_false_eq_true, Bool.false_eq_true, Bool.true_eq_false, reduceCtorEq]
  rw [hs_div hw.1 h0, Int.tmod_eq_emod_of_nonneg hq2]
  generalize w / 2 ^ i.toNat = q
  exact congrArg some (Bool.eq_iff_iff.2 (by simp))
theorem rSet_eq {w i : Int} (hw : U64 w) (h0 : 0 ≤ i) (h : i < 64) : lodgerref01_Set w i = some (st w i) := by
  unfold lodgerref01_Set
  rw [rHas_eq hw h0 h, Pow_eq h0 h]
  cases hh : hs w i
  · have e := st_add hw h0 h hh
    have u := st_u hw h0 h
    unfold U64 at u
    have e2 : IntKind.u64.wrap (st w i) = st w i := u64_in _ u
    rw [e] at e2
    simp (disch := omega) only [e2, e, i64_in, u64_in, u32_in, u8_in, u16_in, Option.bind_some, Option.bind_none, Option.bind_eq_bind, ↓Bool.cond_eq_ite, decide_eq_true_eq, beq_iff_eq, bne_iff_ne, ne_eq, Bool.not_eq_true', Bool.not_eq_true, Bool.not_eq_false', Bool.not_not, decide_eq_false_iff_not, if_pos, if_neg, reduceIte, not_true_eq_false, not_false_eq_true, Bool.false_eq_true, Bool.true_eq_false, reduceCtorEq]
  · simp (disch := omega) only [st_id hw h0 h hh, i64_in, u64_in, u32_in, u8_in, u16_in, Option.bind_some, Option.bind_none, Option.bind_eq_bind, ↓Bool.cond_eq_ite, decide_eq_true_eq, beq_iff_eq, bne_iff_ne, ne_eq, Bool.not_eq_true', Bool.not_eq_true, Bool.not_eq_false', Bool.not_not, decide_eq_false_iff_not, if_pos, if_neg, reduceIte, not_true_eq_false, not_false_eq_true, Bool.false_eq_true, Bool.true_eq_false, reduceCtorEq]
theorem rClear_eq {w i : Int} (hw : U64 w) (h0 : 0 ≤ i) (h : i < 64) : lodgerref01_Clear w i = some (cl w i) := by
  unfold lodgerref01_Clear
  rw [rHas_eq hw h0 h, Pow_eq h0 h]
  cases hh : hs w i
  · simp (disch := omega) only [cl_id hw h0 hh, i64_in, u64_in, u32_in, u8_in, u16_in, Option.bind_some, Option.bind_none, Option.bind_eq_bind, ↓Bool.cond_eq_ite, decide_eq_true_eq, beq_iff_eq, bne_iff_ne, ne_eq, Bool.not_eq_true', Bool.not_eq_true, Bool.not_eq_false', Bool.not_not, decide_eq_false_iff_not, if_pos, if_neg, reduceIte, not_true_eq_false, not_false_eq_true, Bool.false_eq_true, Bool.true_eq_false, reduceCtorEq]
  · have e := cl_sub hw h0 hh
    have u := @cl_u w i hw
    unfold U64 at u
    have e2 : IntKind.u64.wrap (cl w i) = cl w i := u64_in _ u
    rw [e] at e2
    simp (disch := omega) only [e2, e, i64_in, u64_in, u32_in, u8_in, u16_in, Option.bind_some, Option.bind_none, Option.bind_eq_bind, ↓Bool.cond_eq_ite, decide_eq_true_eq, beq_iff_eq, bne_iff_ne, ne_eq, Bool.not_eq_true', Bool.not_eq_true, Bool.not_eq_false', Bool.not_not, decide_eq_false_iff_not, if_pos, if_neg, reduceIte, not_true_eq_false, not_false_eq_true, Bool.false_eq_true, Bool.true_eq_false, reduceCtorEq]

/-- The first bit that isn't set, from one on. -/
def fbA (w : Int) : Nat → Int → Int × Bool
  | 0, _ => (0, false)
  | n + 1, i => if hs w i then fbA w n (i + 1) else (i, true)
def fb (w f t : Int) : Int × Bool := fbA w (t - f).toNat f
theorem fbA_succ (w : Int) (n : Nat) (i : Int) : fbA w (n + 1) i = if hs w i then fbA w n (i + 1) else (i, true) := rfl
theorem fbA_spec (w : Int) : ∀ (n : Nat) (i : Int), ((fbA w n i).2 = false → (fbA w n i).1 = 0 ∧ ∀ k, i ≤ k → k < i + n → hs w k = true) ∧
    ((fbA w n i).2 = true → i ≤ (fbA w n i).1 ∧ (fbA w n i).1 < i + n ∧ hs w (fbA w n i).1 = false ∧ ∀ k, i ≤ k → k < (fbA w n i).1 → hs w k = true) := by
  intro n
  induction n with
  | zero => intro i; exact ⟨fun _ => ⟨rfl, fun k h1 h2 => by omega⟩, fun h => by cases h⟩
  | succ n ih =>
    intro i
    unfold fbA
    cases hi : hs w i
    · simp only [Bool.false_eq_true, if_false]
      refine ⟨fun h => (by cases h), fun _ => ⟨Int.le_refl _, by simp; omega, hi, fun k h1 h2 => by omega⟩⟩
    · simp only [if_true]
      obtain ⟨a, b⟩ := ih (i + 1)
      refine ⟨fun h => ⟨(a h).1, fun k h1 h2 => ?_⟩, fun h => ?_⟩
      · by_cases e : k = i
        · rw [e]; exact hi
        · exact (a h).2 k (by omega) (by omega)
      · obtain ⟨c1, c2, c3, c4⟩ := b h
        refine ⟨by omega, by omega, c3, fun k h1 h2 => ?_⟩
        by_cases e : k = i
        · rw [e]; exact hi
        · exact c4 k (by omega) h2
theorem fb_no {w f t : Int} (h : (fb w f t).2 = false) : (fb w f t).1 = 0 ∧ ∀ k, f ≤ k → k < t → hs w k = true := by
  obtain ⟨a, b⟩ := ((fbA_spec w _ f).1 h)
  exact ⟨a, fun k h1 h2 => b k h1 (by omega)⟩
theorem fb_yes {w f t : Int} (h : (fb w f t).2 = true) : f ≤ (fb w f t).1 ∧ (fb w f t).1 < t ∧ hs w (fb w f t).1 = false ∧ ∀ k, f ≤ k → k < (fb w f t).1 → hs w k = true := by
  obtain ⟨a, b, c, d⟩ := ((fbA_spec w _ f).2 h)
  have : (fb w f t).1 < f + (t - f).toNat := b
  exact ⟨a, by unfold fb at *; omega, c, d⟩
theorem Find_l (w t : Int) (hw : U64 w) (ht : t ≤ 4611686018427387904) : ∀ (d n : Nat) (i : Int), d < n → 0 ≤ i → (t - i).toNat = d → hint_Find_l0 n w t i = some (fbA w d i) := by
  intro d
  induction d with
  | zero =>
    intro n i hn h1 h2
    obtain ⟨m, rfl⟩ : ∃ m, n = m + 1 := ⟨n - 1, by omega⟩
    unfold hint_Find_l0 hint_Find_s0
    simp (disch := omega) only [i64_in, u64_in, u32_in, u8_in, u16_in, Option.bind_some, Option.bind_none, Option.bind_eq_bind, ↓Bool.cond_eq_ite, decide_eq_true_eq, beq_iff_eq, bne_iff_ne, ne_eq, Bool.not_eq_true', Bool.not_eq_true, Bool.not_eq_false', Bool.not_not, decide_eq_false_iff_not, if_pos, if_neg, reduceIte, not_true_eq_false, not_false_eq_true, Bool.false_eq_true, Bool.true_eq_false, reduceCtorEq]
    rfl
  | succ d ih =>
    intro n i hn h1 h2
    obtain ⟨m, rfl⟩ : ∃ m, n = m + 1 := ⟨n - 1, by omega⟩
    unfold hint_Find_l0 hint_Find_s0
    simp (disch := omega) only [Has_eq hw h1 (by omega), i64_in, u64_in, u32_in, u8_in, u16_in, Option.bind_some, Option.bind_none, Option.bind_eq_bind, ↓Bool.cond_eq_ite, decide_eq_true_eq, beq_iff_eq, bne_iff_ne, ne_eq, Bool.not_eq_true', Bool.not_eq_true, Bool.not_eq_false', Bool.not_not, decide_eq_false_iff_not, if_pos, if_neg, reduceIte, not_true_eq_false, not_false_eq_true, Bool.false_eq_true, Bool.true_eq_false, reduceCtorEq]
    rw [ih m (i + 1) (by omega) (by omega) (by omega), fbA_succ]
    cases hs w i <;> rfl
theorem Find_eq {w f t : Int} (hw : U64 w) (hf : 0 ≤ f) (ht : t ≤ 1000000000000000000) : hint_Find w f t = some (fb w f t) :=
  Find_l w t hw (by omega) (t - f).toNat big f (big_lt (by omega)) hf rfl
theorem rFind_l (w t : Int) (hw : U64 w) (ht : t ≤ 64) : ∀ (d n : Nat) (i : Int), d < n → 0 ≤ i → (t - i).toNat = d → lodgerref08_Find_l0 n w t i = some (fbA w d i) := by
  intro d
  induction d with
  | zero =>
    intro n i hn h1 h2
    obtain ⟨m, rfl⟩ : ∃ m, n = m + 1 := ⟨n - 1, by omega⟩
    unfold lodgerref08_Find_l0 lodgerref08_Find_s0
    simp (disch := omega) only [i64_in, u64_in, u32_in, u8_in, u16_in, Option.bind_some, Option.bind_none, Option.bind_eq_bind, ↓Bool.cond_eq_ite, decide_eq_true_eq, beq_iff_eq, bne_iff_ne, ne_eq, Bool.not_eq_true', Bool.not_eq_true, Bool.not_eq_false', Bool.not_not, decide_eq_false_iff_not, if_pos, if_neg, reduceIte, not_true_eq_false, not_false_eq_true, Bool.false_eq_true, Bool.true_eq_false, reduceCtorEq]
    rfl
  | succ d ih =>
    intro n i hn h1 h2
    obtain ⟨m, rfl⟩ : ∃ m, n = m + 1 := ⟨n - 1, by omega⟩
    unfold lodgerref08_Find_l0 lodgerref08_Find_s0
    simp (disch := omega) only [rHas_eq hw h1 (by omega), i64_in, u64_in, u32_in, u8_in, u16_in, Option.bind_some, Option.bind_none, Option.bind_eq_bind, ↓Bool.cond_eq_ite, decide_eq_true_eq, beq_iff_eq, bne_iff_ne, ne_eq, Bool.not_eq_true', Bool.not_eq_true, Bool.not_eq_false', Bool.not_not, decide_eq_false_iff_not, if_pos, if_neg, reduceIte, not_true_eq_false, not_false_eq_true, Bool.false_eq_true, Bool.true_eq_false, reduceCtorEq]
    rw [ih m (i + 1) (by omega) (by omega) (by omega), fbA_succ]
    cases hs w i <;> rfl
theorem rFind_eq {w f t : Int} (hw : U64 w) (hf : 0 ≤ f) (ht : t ≤ 64) : lodgerref08_Find w f t = some (fb w f t) :=
  rFind_l w t hw ht (t - f).toNat big f (big_lt (by omega)) hf rfl
end
end Go.Lv.Ld
