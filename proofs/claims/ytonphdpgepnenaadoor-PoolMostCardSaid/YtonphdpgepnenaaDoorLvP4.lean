import Derived.Test.YtonphdpgepnenaaDoorLvP3
namespace Go.Lv.Ld
set_option linter.all false
noncomputable section
open Go Go.Lv Go.IntWalk

theorem lodgerref02_Same_l (a b : List Int) (hl : a.length = b.length) : ∀ (d n : Nat) (i : Int), d < n → 0 ≤ i → ((a.length : Int) - i).toNat = d → i ≤ a.length → a.length ≤ 4000000000000000000 →
    (∀ j : Int, 0 ≤ j → j < i → gt a j = gt b j) → lodgerref02_Same_l0 n a b i = some (decide (a = b)) := by
  intro d
  induction d with
  | zero =>
    intro n i hn h1 h2 h3 h4 h5
    obtain ⟨m, rfl⟩ : ∃ m, n = m + 1 := ⟨n - 1, by omega⟩
    rw [su0_lodgerref02_Same]
    unfold lodgerref02_Same_s0
    have : a = b := list_ext hl fun i q1 q2 => h5 i q1 (by omega)
    clear h5
    simp (disch := omega) only [i64_in, u64_in, u32_in, u8_in, u16_in, Option.bind_some, Option.bind_none, Option.bind_eq_bind, ↓Bool.cond_eq_ite, decide_eq_true_eq, beq_iff_eq, bne_iff_ne, ne_eq, Bool.not_eq_true', Bool.not_eq_true, Bool.not_eq_false', Bool.not_not, decide_eq_false_iff_not, if_pos, if_neg, reduceIte, not_true_eq_false, not_false_eq_true, Bool.false_eq_true, Bool.true_eq_false, reduceCtorEq]
    rw [decide_eq_true this]
  | succ d ih =>
    intro n i hn h1 h2 h3 h4 h5
    obtain ⟨m, rfl⟩ : ∃ m, n = m + 1 := ⟨n - 1, by omega⟩
    rw [su0_lodgerref02_Same]
    unfold lodgerref02_Same_s0
    have hx := ih m (i + 1) (by omega) (by omega) (by omega) (by omega) h4
    by_cases c : gt a i = gt b i
    · have hy := hx fun j q1 q2 => by
        by_cases e : j = i
        · rw [e, c]
        · exact h5 j q1 (by omega)
      clear h5 hx ih
      simp (disch := omega) only [geti_eq h1 (show i < (a.length : Int) by omega), geti_eq h1 (show i < (b.length : Int) by omega), c, i64_in, u64_in, u32_in, u8_in, u16_in, Option.bind_some, Option.bind_none, Option.bind_eq_bind, ↓Bool.cond_eq_ite, decide_eq_true_eq, beq_iff_eq, bne_iff_ne, ne_eq, Bool.not_eq_true', Bool.not_eq_true, Bool.not_eq_false', Bool.not_not, decide_eq_false_iff_not, if_pos, if_neg, reduceIte, not_true_eq_false, not_false_eq_true, Bool.false_eq_true, Bool.true_eq_false, reduceCtorEq]
      exact hy
    · have : a ≠ b := fun e => c (by rw [e])
      clear h5 hx ih
      simp (disch := omega) only [geti_eq h1 (show i < (a.length : Int) by omega), geti_eq h1 (show i < (b.length : Int) by omega), c, i64_in, u64_in, u32_in, u8_in, u16_in, Option.bind_some, Option.bind_none, Option.bind_eq_bind, ↓Bool.cond_eq_ite, decide_eq_true_eq, beq_iff_eq, bne_iff_ne, ne_eq, Bool.not_eq_true', Bool.not_eq_true, Bool.not_eq_false', Bool.not_not, decide_eq_false_iff_not, if_pos, if_neg, reduceIte, not_true_eq_false, not_false_eq_true, Bool.false_eq_true, Bool.true_eq_false, reduceCtorEq]
      rw [decide_eq_false this]
theorem lodgerref02_Same_eq (a b : List Int) (h : a.length ≤ 4000000000000000000) : lodgerref02_Same a b = some (decide (a = b)) := by
  unfold lodgerref02_Same lodgerref02_Same_n lodgerref02_Same_e
  by_cases c : (a.length : Int) = b.length
  · simp (disch := omega) only [c, i64_in, u64_in, u32_in, u8_in, u16_in, Option.bind_some, Option.bind_none, Option.bind_eq_bind, ↓Bool.cond_eq_ite, decide_eq_true_eq, beq_iff_eq, bne_iff_ne, ne_eq, Bool.not_eq_true', Bool.not_eq_true, Bool.not_eq_false', Bool.not_not, decide_eq_false_iff_not, if_pos, if_neg, reduceIte, not_true_eq_false, not_false_eq_true, Bool.false_eq_true, Bool.true_eq_false, reduceCtorEq]
    exact lodgerref02_Same_l a b (by omega) a.length big 0 (big_lt (by omega)) (by omega) (by omega) (by omega) h fun j q1 q2 => by omega
  · simp (disch := omega) only [c, i64_in, u64_in, u32_in, u8_in, u16_in, Option.bind_some, Option.bind_none, Option.bind_eq_bind, ↓Bool.cond_eq_ite, decide_eq_true_eq, beq_iff_eq, bne_iff_ne, ne_eq, Bool.not_eq_true', Bool.not_eq_true, Bool.not_eq_false', Bool.not_not, decide_eq_false_iff_not, if_pos, if_neg, reduceIte, not_true_eq_false, not_false_eq_true, Bool.false_eq_true, Bool.true_eq_false, reduceCtorEq]
    rw [decide_eq_false]
    intro e; exact c (by rw [e])
theorem lodgerref08_Addrs_l (a b : List Int) (hl : a.length = b.length) : ∀ (d n : Nat) (i : Int), d < n → 0 ≤ i → ((a.length : Int) - i).toNat = d → i ≤ a.length → a.length ≤ 4000000000000000000 →
    (∀ j : Int, 0 ≤ j → j < i → gt a j = gt b j) → lodgerref08_Addrs_l0 n a b i = some (decide (a = b)) := by
  intro d
  induction d with
  | zero =>
    intro n i hn h1 h2 h3 h4 h5
    obtain ⟨m, rfl⟩ : ∃ m, n = m + 1 := ⟨n - 1, by omega⟩
    rw [su0_lodgerref08_Addrs]
    unfold lodgerref08_Addrs_s0
    have : a = b := list_ext hl fun i q1 q2 => h5 i q1 (by omega)
    clear h5
    simp (disch := omega) only [i64_in, u64_in, u32_in, u8_in, u16_in, Option.bind_some, Option.bind_none, Option.bind_eq_bind, ↓Bool.cond_eq_ite, decide_eq_true_eq, beq_iff_eq, bne_iff_ne, ne_eq, Bool.not_eq_true', Bool.not_eq_true, Bool.not_eq_false', Bool.not_not, decide_eq_false_iff_not, if_pos, if_neg, reduceIte, not_true_eq_false, not_false_eq_true, Bool.false_eq_true, Bool.true_eq_false, reduceCtorEq]
    rw [decide_eq_true this]
  | succ d ih =>
    intro n i hn h1 h2 h3 h4 h5
    obtain ⟨m, rfl⟩ : ∃ m, n = m + 1 := ⟨n - 1, by omega⟩
    rw [su0_lodgerref08_Addrs]
    unfold lodgerref08_Addrs_s0
    have hx := ih m (i + 1) (by omega) (by omega) (by omega) (by omega) h4
    by_cases c : gt a i = gt b i
    · have hy := hx fun j q1 q2 => by
        by_cases e : j = i
        · rw [e, c]
        · exact h5 j q1 (by omega)
      clear h5 hx ih
      simp (disch := omega) only [geti_eq h1 (show i < (a.length : Int) by omega), geti_eq h1 (show i < (b.length : Int) by omega), c, i64_in, u64_in, u32_in, u8_in, u16_in, Option.bind_some, Option.bind_none, Option.bind_eq_bind, ↓Bool.cond_eq_ite, decide_eq_true_eq, beq_iff_eq, bne_iff_ne, ne_eq, Bool.not_eq_true', Bool.not_eq_true, Bool.not_eq_false', Bool.not_not, decide_eq_false_iff_not, if_pos, if_neg, reduceIte, not_true_eq_false, not_false_eq_true, Bool.false_eq_true, Bool.true_eq_false, reduceCtorEq]
      exact hy
    · have : a ≠ b := fun e => c (by rw [e])
      clear h5 hx ih
      simp (disch := omega) only [geti_eq h1 (show i < (a.length : Int) by omega), geti_eq h1 (show i < (b.length : Int) by omega), c, i64_in, u64_in, u32_in, u8_in, u16_in, Option.bind_some, Option.bind_none, Option.bind_eq_bind, ↓Bool.cond_eq_ite, decide_eq_true_eq, beq_iff_eq, bne_iff_ne, ne_eq, Bool.not_eq_true', Bool.not_eq_true, Bool.not_eq_false', Bool.not_not, decide_eq_false_iff_not, if_pos, if_neg, reduceIte, not_true_eq_false, not_false_eq_true, Bool.false_eq_true, Bool.true_eq_false, reduceCtorEq]
      rw [decide_eq_false this]
theorem lodgerref08_Addrs_eq (a b : List Int) (h : a.length ≤ 4000000000000000000) : lodgerref08_Addrs a b = some (decide (a = b)) := by
  unfold lodgerref08_Addrs lodgerref08_Addrs_n lodgerref08_Addrs_e
  by_cases c : (a.length : Int) = b.length
  · simp (disch := omega) only [c, i64_in, u64_in, u32_in, u8_in, u16_in, Option.bind_some, Option.bind_none, Option.bind_eq_bind, ↓Bool.cond_eq_ite, decide_eq_true_eq, beq_iff_eq, bne_iff_ne, ne_eq, Bool.not_eq_true', Bool.not_eq_true, Bool.not_eq_false', Bool.not_not, decide_eq_false_iff_not, if_pos, if_neg, reduceIte, not_true_eq_false, not_false_eq_true, Bool.false_eq_true, Bool.true_eq_false, reduceCtorEq]
    exact lodgerref08_Addrs_l a b (by omega) a.length big 0 (big_lt (by omega)) (by omega) (by omega) (by omega) h fun j q1 q2 => by omega
  · simp (disch := omega) only [c, i64_in, u64_in, u32_in, u8_in, u16_in, Option.bind_some, Option.bind_none, Option.bind_eq_bind, ↓Bool.cond_eq_ite, decide_eq_true_eq, beq_iff_eq, bne_iff_ne, ne_eq, Bool.not_eq_true', Bool.not_eq_true, Bool.not_eq_false', Bool.not_not, decide_eq_false_iff_not, if_pos, if_neg, reduceIte, not_true_eq_false, not_false_eq_true, Bool.false_eq_true, Bool.true_eq_false, reduceCtorEq]
    rw [decide_eq_false]
    intro e; exact c (by rw [e])
theorem lodgerref08_Errs_l (a b : List Int) (hl : a.length = b.length) : ∀ (d n : Nat) (i : Int), d < n → 0 ≤ i → ((a.length : Int) - i).toNat = d → i ≤ a.length → a.length ≤ 4000000000000000000 →
    (∀ j : Int, 0 ≤ j → j < i → gt a j = gt b j) → lodgerref08_Errs_l0 n a b i = some (decide (a = b)) := by
  intro d
  induction d with
  | zero =>
    intro n i hn h1 h2 h3 h4 h5
    obtain ⟨m, rfl⟩ : ∃ m, n = m + 1 := ⟨n - 1, by omega⟩
    rw [su0_lodgerref08_Errs]
    unfold lodgerref08_Errs_s0
    have : a = b := list_ext hl fun i q1 q2 => h5 i q1 (by omega)
    clear h5
    simp (disch := omega) only [i64_in, u64_in, u32_in, u8_in, u16_in, Option.bind_some, Option.bind_none, Option.bind_eq_bind, ↓Bool.cond_eq_ite, decide_eq_true_eq, beq_iff_eq, bne_iff_ne, ne_eq, Bool.not_eq_true', Bool.not_eq_true, Bool.not_eq_false', Bool.not_not, decide_eq_false_iff_not, if_pos, if_neg, reduceIte, not_true_eq_false, not_false_eq_true, Bool.false_eq_true, Bool.true_eq_false, reduceCtorEq]
    rw [decide_eq_true this]
  | succ d ih =>
    intro n i hn h1 h2 h3 h4 h5
    obtain ⟨m, rfl⟩ : ∃ m, n = m + 1 := ⟨n - 1, by omega⟩
    rw [su0_lodgerref08_Errs]
    unfold lodgerref08_Errs_s0
    have hx := ih m (i + 1) (by omega) (by omega) (by omega) (by omega) h4
    by_cases c : gt a i = gt b i
    · have hy := hx fun j q1 q2 => by
        by_cases e : j = i
        · rw [e, c]
        · exact h5 j q1 (by omega)
      clear h5 hx ih
      simp (disch := omega) only [geti_eq h1 (show i < (a.length : Int) by omega), geti_eq h1 (show i < (b.length : Int) by omega), c, i64_in, u64_in, u32_in, u8_in, u16_in, Option.bind_some, Option.bind_none, Option.bind_eq_bind, ↓Bool.cond_eq_ite, decide_eq_true_eq, beq_iff_eq, bne_iff_ne, ne_eq, Bool.not_eq_true', Bool.not_eq_true, Bool.not_eq_false', Bool.not_not, decide_eq_false_iff_not, if_pos, if_neg, reduceIte, not_true_eq_false, not_false_eq_true, Bool.false_eq_true, Bool.true_eq_false, reduceCtorEq]
      exact hy
    · have : a ≠ b := fun e => c (by rw [e])
      clear h5 hx ih
      simp (disch := omega) only [geti_eq h1 (show i < (a.length : Int) by omega), geti_eq h1 (show i < (b.length : Int) by omega), c, i64_in, u64_in, u32_in, u8_in, u16_in, Option.bind_some, Option.bind_none, Option.bind_eq_bind, ↓Bool.cond_eq_ite, decide_eq_true_eq, beq_iff_eq, bne_iff_ne, ne_eq, Bool.not_eq_true', Bool.not_eq_true, Bool.not_eq_false', Bool.not_not, decide_eq_false_iff_not, if_pos, if_neg, reduceIte, not_true_eq_false, not_false_eq_true, Bool.false_eq_true, Bool.true_eq_false, reduceCtorEq]
      rw [decide_eq_false this]
theorem lodgerref08_Errs_eq (a b : List Int) (h : a.length ≤ 4000000000000000000) : lodgerref08_Errs a b = some (decide (a = b)) := by
  unfold lodgerref08_Errs lodgerref08_Errs_n lodgerref08_Errs_e
  by_cases c : (a.length : Int) = b.length
  · simp (disch := omega) only [c, i64_in, u64_in, u32_in, u8_in, u16_in, Option.bind_some, Option.bind_none, Option.bind_eq_bind, ↓Bool.cond_eq_ite, decide_eq_true_eq, beq_iff_eq, bne_iff_ne, ne_eq, Bool.not_eq_true', Bool.not_eq_true, Bool.not_eq_false', Bool.not_not, decide_eq_false_iff_not, if_pos, if_neg, reduceIte, not_true_eq_false, not_false_eq_true, Bool.false_eq_true, Bool.true_eq_false, reduceCtorEq]
    exact lodgerref08_Errs_l a b (by omega) a.length big 0 (big_lt (by omega)) (by omega) (by omega) (by omega) h fun j q1 q2 => by omega
  · simp (disch := omega) only [c, i64_in, u64_in, u32_in, u8_in, u16_in, Option.bind_some, Option.bind_none, Option.bind_eq_bind, ↓Bool.cond_eq_ite, decide_eq_true_eq, beq_iff_eq, bne_iff_ne, ne_eq, Bool.not_eq_true', Bool.not_eq_true, Bool.not_eq_false', Bool.not_not, decide_eq_false_iff_not, if_pos, if_neg, reduceIte, not_true_eq_false, not_false_eq_true, Bool.false_eq_true, Bool.true_eq_false, reduceCtorEq]
    rw [decide_eq_false]
    intro e; exact c (by rw [e])

/-- Cells. -/
theorem is_eq (l : List Int) (i : Int) : cells_is l i = some (decide (0 ≤ i ∧ i < (l.length : Int))) := by
  unfold cells_is
  by_cases c : i ≥ 0
  · simp (disch := omega) only [i64_in, u64_in, u32_in, u8_in, u16_in, Option.bind_some, Option.bind_none, Option.bind_eq_bind, ↓Bool.cond_eq_ite, decide_eq_true_eq, beq_iff_eq, bne_iff_ne, ne_eq, Bool.not_eq_true', Bool.not_eq_true, Bool.not_eq_false', Bool.not_not, decide_eq_false_iff_not, if_pos, if_neg, reduceIte, not_true_eq_false, not_false_eq_true, Bool.false_eq_true, Bool.true_eq_false, reduceCtorEq]
    exact congrArg some (decide_eq_decide.2 (by omega))
  · simp (disch := omega) only [i64_in, u64_in, u32_in, u8_in, u16_in, Option.bind_some, Option.bind_none, Option.bind_eq_bind, ↓Bool.cond_eq_ite, decide_eq_true_eq, beq_iff_eq, bne_iff_ne, ne_eq, Bool.not_eq_true', Bool.not_eq_true, Bool.not_eq_false', Bool.not_not, decide_eq_false_iff_not, if_pos, if_neg, reduceIte, not_true_eq_false, not_false_eq_true, Bool.false_eq_true, Bool.true_eq_false, reduceCtorEq]
    exact congrArg some (decide_eq_false (by omega)).symm
theorem Load_eq {l : List Int} {i : Int} (h0 : 0 ≤ i) (h : i < (l.length : Int)) : cells_Load l i = some (gt l i) := by
  unfold cells_Load
  rw [is_eq]
  simp (disch := omega) only [geti_eq h0 h, and_self, i64_in, u64_in, u32_in, u8_in, u16_in, Option.bind_some, Option.bind_none, Option.bind_eq_bind, ↓Bool.cond_eq_ite, decide_eq_true_eq, beq_iff_eq, bne_iff_ne, ne_eq, Bool.not_eq_true', Bool.not_eq_true, Bool.not_eq_false', Bool.not_not, decide_eq_false_iff_not, if_pos, if_neg, reduceIte, not_true_eq_false, not_false_eq_true, Bool.false_eq_true, Bool.true_eq_false, reduceCtorEq]
theorem Store_eq {l : List Int} {i w : Int} (h0 : 0 ≤ i) (h : i < (l.length : Int)) (hl : l.length ≤ maxList) : cells_Store l i w = some (pt l i w) := by
  unfold cells_Store
  rw [is_eq]
  have e1 : (List.replicate (Int.toNat (l.length : Int)) (0 : Int)).length = l.length := by simp
  have e2 : l.take l.length ++ (List.replicate (Int.toNat (l.length : Int)) (0 : Int)).drop l.length = l := by simp
  have e3 : ieq (l.length : Int) (l.length : Int) = true := by simp [ieq]
  have e4 : okLen (l.length : Int) = true := by unfold okLen; unfold maxList at *; exact decide_eq_true ⟨by omega, by omega⟩
  rw [e1, e2, e3, e4]
  have e5 : (decide (0 ≤ i ∧ i < (l.length : Int))) = true := decide_eq_true ⟨h0, h⟩
  rw [e5]
  simp only [Bool.and_self, Option.bind_some, cond_true, Bool.not_true, cond_false, get?_gt h0 h]
  unfold pt
  rw [if_pos h0]
theorem Swap_eq {l : List Int} {i o w : Int} (h0 : 0 ≤ i) (h : i < (l.length : Int)) (hl : l.length ≤ maxList) : cells_Swap l i o w = some (if gt l i = o then (pt l i w, true) else (l, false)) := by
  unfold cells_Swap
  rw [is_eq]
  have e5 : (decide (0 ≤ i ∧ i < (l.length : Int))) = true := decide_eq_true ⟨h0, h⟩
  rw [e5]
  by_cases c : gt l i = o
  · simp (disch := omega) only [geti_eq h0 h, c, Store_eq h0 h hl, i64_in, u64_in, u32_in, u8_in, u16_in, Option.bind_some, Option.bind_none, Option.bind_eq_bind, ↓Bool.cond_eq_ite, decide_eq_true_eq, beq_iff_eq, bne_iff_ne, ne_eq, Bool.not_eq_true', Bool.not_eq_true, Bool.not_eq_false', Bool.not_not, decide_eq_false_iff_not, if_pos, if_neg, reduceIte, not_true_eq_false, not_false_eq_true, Bool.false_eq_true, Bool.true_eq_false, reduceCtorEq]
  · simp (disch := omega) only [geti_eq h0 h, c, i64_in, u64_in, u32_in, u8_in, u16_in, Option.bind_some, Option.bind_none, Option.bind_eq_bind, ↓Bool.cond_eq_ite, decide_eq_true_eq, beq_iff_eq, bne_iff_ne, ne_eq, Bool.not_eq_true', Bool.not_eq_true, Bool.not_eq_false', Bool.not_not, decide_eq_false_iff_not, if_pos, if_neg, reduceIte, not_true_eq_false, not_false_eq_true, Bool.false_eq_true, Bool.true_eq_false, reduceCtorEq]
theorem rSet_l (a w : Int) (l : List Int) (hl : l.length ≤ 137438953472) : ∀ (d n : Nat) (i : Int) (m : List Int), d < n → 0 ≤ i → m.length = l.length → ((l.length : Int) - i).toNat = d → i ≤ l.length → m = (if a < i then pt l a w else l) → 
    lodgerref02_Set_l0 n a w i m = some (pt l a w) := by
  intro d
  induction d with
  | zero =>
    intro n i m hn h1 hm h2 h3 h4
    obtain ⟨k, rfl⟩ : ∃ k, n = k + 1 := ⟨n - 1, by omega⟩
    rw [su0_lodgerref02_Set]
    unfold lodgerref02_Set_s0
    have : m = pt l a w := by
      rw [h4]
      split
      · rfl
      · unfold pt; rw [if_pos (by omega), List.set_eq_of_length_le (by omega)]
    clear h4
    simp (disch := omega) only [i64_in, u64_in, u32_in, u8_in, u16_in, Option.bind_some, Option.bind_none, Option.bind_eq_bind, ↓Bool.cond_eq_ite, decide_eq_true_eq, beq_iff_eq, bne_iff_ne, ne_eq, Bool.not_eq_true', Bool.not_eq_true, Bool.not_eq_false', Bool.not_not, decide_eq_false_iff_not, if_pos, if_neg, reduceIte, not_true_eq_false, not_false_eq_true, Bool.false_eq_true, Bool.true_eq_false, reduceCtorEq]
    rw [this]
  | succ d ih =>
    intro n i m hn h1 hm h2 h3 h4
    obtain ⟨k, rfl⟩ : ∃ k, n = k + 1 := ⟨n - 1, by omega⟩
    rw [su0_lodgerref02_Set]
    unfold lodgerref02_Set_s0
    have hx := fun m' (q : m'.length = l.length) => ih k (i + 1) m' (by omega) (by omega) q (by omega) (by omega)
    by_cases c : i = a
    · have e : m = l := by rw [h4, if_neg (by omega)]
      have hy := hx (m.set i.toNat w) (by simp [hm]) (by rw [if_pos (by omega), e, ← c]; unfold pt; rw [if_pos h1])
      clear h4 hx ih
      subst c
      simp (disch := omega) only [get?_gt h1 (show i < (m.length : Int) by omega), i64_in, u64_in, u32_in, u8_in, u16_in, Option.bind_some, Option.bind_none, Option.bind_eq_bind, ↓Bool.cond_eq_ite, decide_eq_true_eq, beq_iff_eq, bne_iff_ne, ne_eq, Bool.not_eq_true', Bool.not_eq_true, Bool.not_eq_false', Bool.not_not, decide_eq_false_iff_not, if_pos, if_neg, reduceIte, not_true_eq_false, not_false_eq_true, Bool.false_eq_true, Bool.true_eq_false, reduceCtorEq]
      exact hy
    · have hy := hx m hm (by
        rw [h4]
        by_cases q : a < i
        · rw [if_pos q, if_pos (by omega)]
        · rw [if_neg q, if_neg (by omega)])
      clear h4 hx ih
      simp (disch := omega) only [i64_in, u64_in, u32_in, u8_in, u16_in, Option.bind_some, Option.bind_none, Option.bind_eq_bind, ↓Bool.cond_eq_ite, decide_eq_true_eq, beq_iff_eq, bne_iff_ne, ne_eq, Bool.not_eq_true', Bool.not_eq_true, Bool.not_eq_false', Bool.not_not, decide_eq_false_iff_not, if_pos, if_neg, reduceIte, not_true_eq_false, not_false_eq_true, Bool.false_eq_true, Bool.true_eq_false, reduceCtorEq]
      exact hy
theorem r2Set_eq {l : List Int} {a w : Int} (hl : l.length ≤ maxList) : lodgerref02_Set l a w = some (pt l a w) := by
  unfold lodgerref02_Set lodgerref02_Set_n lodgerref02_Set_e
  simp (disch := omega) only [i64_in, u64_in, u32_in, u8_in, u16_in, Option.bind_some, Option.bind_none, Option.bind_eq_bind, ↓Bool.cond_eq_ite, decide_eq_true_eq, beq_iff_eq, bne_iff_ne, ne_eq, Bool.not_eq_true', Bool.not_eq_true, Bool.not_eq_false', Bool.not_not, decide_eq_false_iff_not, if_pos, if_neg, reduceIte, not_true_eq_false, not_false_eq_true, Bool.false_eq_true, Bool.true_eq_false, reduceCtorEq]
  refine rSet_l a w l hl l.length big 0 l (big_lt ?_) (by omega) rfl (by omega) (by omega) ?_
  · unfold maxList at hl; omega
  · split
    · unfold pt; rw [if_neg (by omega)]
    · rfl
end
end Go.Lv.Ld
