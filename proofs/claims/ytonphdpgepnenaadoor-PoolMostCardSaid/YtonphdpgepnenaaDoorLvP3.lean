import Derived.Test.YtonphdpgepnenaaDoorLvP2
namespace Go.Lv.Ld
set_option linter.all false
noncomputable section
open Go Go.Lv Go.IntWalk

/-- What stands at a place. -/
def gt (l : List Int) (i : Int) : Int := l.getD i.toNat 0
def pt (l : List Int) (i w : Int) : List Int := if 0 ≤ i then l.set i.toNat w else l
theorem geti_eq {l : List Int} {i : Int} (h0 : 0 ≤ i) (h : i < (l.length : Int)) : geti l i = some (gt l i) := by
  unfold geti gt
  rw [if_pos h0, List.getElem?_eq_getElem (show i.toNat < l.length by omega), List.getD_eq_getElem?_getD, List.getElem?_eq_getElem (show i.toNat < l.length by omega)]; rfl
theorem get?_gt {l : List Int} {i : Int} (h0 : 0 ≤ i) (h : i < (l.length : Int)) : l[i.toNat]? = some (gt l i) := by
  have := geti_eq h0 h
  unfold geti at this
  rwa [if_pos h0] at this
theorem gt_mem {l : List Int} {i : Int} (h0 : 0 ≤ i) (h : i < (l.length : Int)) : gt l i ∈ l := List.mem_of_getElem? (get?_gt h0 h)
theorem pt_len (l : List Int) (i w : Int) : (pt l i w).length = l.length := by unfold pt; split <;> simp
theorem gt_pt {l : List Int} {i j w : Int} (hj : 0 ≤ j) (h : j < (l.length : Int)) (hi : 0 ≤ i) : gt (pt l i w) j = if i = j then w else gt l j := by
  unfold pt gt
  rw [if_pos hi, List.getD_eq_getElem?_getD, List.getD_eq_getElem?_getD, List.getElem?_set]
  by_cases e : i = j
  · subst e
    rw [if_pos rfl, if_pos (by omega), if_pos rfl]; rfl
  · rw [if_neg (by omega), if_neg e]
theorem pt_u {l : List Int} {i w : Int} (P : Int → Prop) (h : ∀ x, x ∈ l → P x) (hw : P w) : ∀ x, x ∈ pt l i w → P x := by
  unfold pt
  split
  · intro x hx
    rcases List.mem_or_eq_of_mem_set hx with hx | rfl
    · exact h x hx
    · exact hw
  · exact h
theorem list_ext {a b : List Int} (hl : a.length = b.length) (h : ∀ i : Int, 0 ≤ i → i < (a.length : Int) → gt a i = gt b i) : a = b := by
  apply List.ext_getElem? 
  intro i
  by_cases hi : i < a.length
  · have := h i (by omega) (by omega)
    have e1 := get?_gt (l := a) (i := i) (by omega) (by omega)
    have e2 := get?_gt (l := b) (i := i) (by omega) (by omega)
    simp only [Int.toNat_natCast] at e1 e2
    rw [e1, e2, this]
  · rw [List.getElem?_eq_none (by omega), List.getElem?_eq_none (by omega)]

/-- Configurations. -/
def many (b : Block) : Int := 2 ^ (32 - b.pre).toNat
def leaves (n : Int) : Int := (n + 31) / 32
def tops (n : Int) : Int := (leaves n + 63) / 64
def cellsN (n : Int) : Int := leaves n + tops n + 1
structure OKb (b : Block) : Prop where
  pre1 : 16 ≤ b.pre
  pre2 : b.pre ≤ 32
theorem many_b {b : Block} (h : OKb b) : 1 ≤ many b ∧ many b ≤ 65536 := by
  obtain ⟨h1, h2⟩ := h
  unfold many
  have : (2 : Nat) ^ (32 - b.pre).toNat ≤ 2 ^ 16 := Nat.pow_le_pow_right (by omega) (by omega)
  have h3 : (2 : Nat) ^ (32 - b.pre).toNat ≥ 1 := Nat.one_le_two_pow
  have e : (2 : Int) ^ (32 - b.pre).toNat = ((2 ^ (32 - b.pre).toNat : Nat) : Int) := by norm_cast
  omega
theorem shl_i {i : Int} (hi : 0 ≤ i) (h : i ≤ 32) : shl .i64 1 i = 2 ^ i.toNat := by
  unfold shl
  show IntKind.i64.wrap (1 * 2 ^ min i.toNat 64) = _
  rw [Nat.min_eq_left (by omega), Int.one_mul]
  have := @pow_63 i (by omega)
  have := pow_pos' i
  exact i64_in _ (by omega)
theorem Many_eq {b : Block} (h : OKb b) : block_Many b = some (many b) := by
  obtain ⟨h1, h2⟩ := h
  unfold block_Many many
  simp (disch := omega) only [i64_in, u64_in, u32_in, u8_in, u16_in, Option.bind_some, Option.bind_none, Option.bind_eq_bind, ↓Bool.cond_eq_ite, decide_eq_true_eq, beq_iff_eq, bne_iff_ne, ne_eq, Bool.not_eq_true', Bool.not_eq_true, Bool.not_eq_false', Bool.not_not, decide_eq_false_iff_not, if_pos, if_neg, reduceIte, not_true_eq_false, not_false_eq_true, Bool.false_eq_true, Bool.true_eq_false, reduceCtorEq]
  rw [shl_i (by omega) (by omega)]
theorem rMany_l : ∀ (d n : Nat) (p x : Int), d < n → (32 - p).toNat = d → p ≤ 32 → 16 ≤ p → 0 ≤ x → x ≤ 2 ^ (p - 16).toNat → lodgerref04_Many_l0 n x p = some (x * 2 ^ (32 - p).toNat) := by
  intro d
  induction d with
  | zero =>
    intro n p x hn h1 h2 h3 hx hx2
    obtain ⟨m, rfl⟩ : ∃ m, n = m + 1 := ⟨n - 1, by omega⟩
    rw [su0_lodgerref04_Many]
    unfold lodgerref04_Many_s0
    have : p = 32 := by omega
    subst this
    simp (disch := omega) only [i64_in, u64_in, u32_in, u8_in, u16_in, Option.bind_some, Option.bind_none, Option.bind_eq_bind, ↓Bool.cond_eq_ite, decide_eq_true_eq, beq_iff_eq, bne_iff_ne, ne_eq, Bool.not_eq_true', Bool.not_eq_true, Bool.not_eq_false', Bool.not_not, decide_eq_false_iff_not, if_pos, if_neg, reduceIte, not_true_eq_false, not_false_eq_true, Bool.false_eq_true, Bool.true_eq_false, reduceCtorEq]
    simp
  | succ d ih =>
    intro n p x hn h1 h2 h3 hx hx2
    obtain ⟨m, rfl⟩ : ∃ m, n = m + 1 := ⟨n - 1, by omega⟩
    rw [su0_lodgerref04_Many]
    unfold lodgerref04_Many_s0
    have hb : (2 : Int) ^ (p - 16).toNat ≤ 65536 := by
      have : (2 : Nat) ^ (p - 16).toNat ≤ 2 ^ 16 := Nat.pow_le_pow_right (by omega) (by omega)
      exact (show (2 : Int) ^ (p - 16).toNat = ((2 ^ (p - 16).toNat : Nat) : Int) by norm_cast) ▸ (Int.ofNat_le.2 this)
    have hb1 : x ≤ 65536 := Int.le_trans hx2 hb
    have e : (2 : Int) ^ (p - 16).toNat * 2 = 2 ^ (p + 1 - 16).toNat := by rw [show (p + 1 - 16).toNat = (p - 16).toNat + 1 by omega, Int.pow_succ]
    have hx3 : 2 * x ≤ 2 ^ (p + 1 - 16).toNat := by rw [← e]; omega
    simp (disch := omega) only [i64_in, u64_in, u32_in, u8_in, u16_in, Option.bind_some, Option.bind_none, Option.bind_eq_bind, ↓Bool.cond_eq_ite, decide_eq_true_eq, beq_iff_eq, bne_iff_ne, ne_eq, Bool.not_eq_true', Bool.not_eq_true, Bool.not_eq_false', Bool.not_not, decide_eq_false_iff_not, if_pos, if_neg, reduceIte, not_true_eq_false, not_false_eq_true, Bool.false_eq_true, Bool.true_eq_false, reduceCtorEq]
    rw [ih m (p + 1) (2 * x) (by omega) (by omega) (by omega) (by omega) (by omega) hx3]
    rw [show (32 - p).toNat = (32 - (p + 1)).toNat + 1 by omega, Int.pow_succ]
    congr 1
    rw [Int.mul_comm 2 x, Int.mul_assoc, Int.mul_comm 2]
theorem rMany4_eq {p : Int} (h1 : 16 ≤ p) (h2 : p ≤ 32) : lodgerref04_Many p = some (2 ^ (32 - p).toNat) := by
  have := rMany_l (32 - p).toNat big p 1 (big_lt (by omega)) rfl h2 h1 (by omega) (by have := pow_pos' (p - 16); omega)
  rwa [Int.one_mul] at this
theorem rMany_eq {b : Block} (h : OKb b) : lodgerref05_Many b = some (many b) := by
  unfold lodgerref05_Many
  rw [rMany4_eq h.pre1 h.pre2]; rfl
theorem up_eq {a k : Int} (ha : 0 ≤ a) (ha2 : a ≤ 1000000) (hk : 1 ≤ k) (hk2 : k ≤ 64) : place_up_int_ a k = some ((a + k - 1) / k) := by
  unfold place_up_int_
  simp (disch := omega) only [i64_quo, i64_in, u64_in, u32_in, u8_in, u16_in, Option.bind_some, Option.bind_none, Option.bind_eq_bind, ↓Bool.cond_eq_ite, decide_eq_true_eq, beq_iff_eq, bne_iff_ne, ne_eq, Bool.not_eq_true', Bool.not_eq_true, Bool.not_eq_false', Bool.not_not, decide_eq_false_iff_not, if_pos, if_neg, reduceIte, not_true_eq_false, not_false_eq_true, Bool.false_eq_true, Bool.true_eq_false, reduceCtorEq]
theorem Leaves_eq {n : Int} (h0 : 0 ≤ n) (h : n ≤ 65536) : place_Leaves n = some (leaves n) := by
  unfold place_Leaves
  rw [up_eq h0 (by omega) (by omega) (by omega)]
  unfold leaves
  simp (disch := omega) only [i64_in, u64_in, u32_in, u8_in, u16_in, Option.bind_some, Option.bind_none, Option.bind_eq_bind, ↓Bool.cond_eq_ite, decide_eq_true_eq, beq_iff_eq, bne_iff_ne, ne_eq, Bool.not_eq_true', Bool.not_eq_true, Bool.not_eq_false', Bool.not_not, decide_eq_false_iff_not, if_pos, if_neg, reduceIte, not_true_eq_false, not_false_eq_true, Bool.false_eq_true, Bool.true_eq_false, reduceCtorEq]
  congr 2; omega
theorem leaves_b {n : Int} (h0 : 1 ≤ n) (h : n ≤ 65536) : 1 ≤ leaves n ∧ leaves n ≤ 2048 ∧ 32 * leaves n < n + 32 ∧ n ≤ 32 * leaves n := by unfold leaves; omega
theorem tops_b {n : Int} (h0 : 1 ≤ n) (h : n ≤ 65536) : 1 ≤ tops n ∧ tops n ≤ 32 ∧ 64 * tops n < leaves n + 64 ∧ leaves n ≤ 64 * tops n := by have := leaves_b h0 h; unfold tops; omega
theorem Tops_eq {n : Int} (h0 : 1 ≤ n) (h : n ≤ 65536) : place_Tops n = some (tops n) := by
  unfold place_Tops
  have := leaves_b h0 h
  rw [Leaves_eq (by omega) h, Option.bind_some, up_eq (by omega) (by omega) (by omega) (by omega)]
  unfold tops
  simp (disch := omega) only [i64_in, u64_in, u32_in, u8_in, u16_in, Option.bind_some, Option.bind_none, Option.bind_eq_bind, ↓Bool.cond_eq_ite, decide_eq_true_eq, beq_iff_eq, bne_iff_ne, ne_eq, Bool.not_eq_true', Bool.not_eq_true, Bool.not_eq_false', Bool.not_not, decide_eq_false_iff_not, if_pos, if_neg, reduceIte, not_true_eq_false, not_false_eq_true, Bool.false_eq_true, Bool.true_eq_false, reduceCtorEq]
  congr 2; omega
theorem Cells_eq {n : Int} (h0 : 1 ≤ n) (h : n ≤ 65536) : place_Cells n = some (cellsN n) := by
  unfold place_Cells
  have := leaves_b h0 h
  have := tops_b h0 h
  rw [Leaves_eq (by omega) h, Tops_eq h0 h]
  simp (disch := omega) only [i64_in, u64_in, u32_in, u8_in, u16_in, Option.bind_some, Option.bind_none, Option.bind_eq_bind, ↓Bool.cond_eq_ite, decide_eq_true_eq, beq_iff_eq, bne_iff_ne, ne_eq, Bool.not_eq_true', Bool.not_eq_true, Bool.not_eq_false', Bool.not_not, decide_eq_false_iff_not, if_pos, if_neg, reduceIte, not_true_eq_false, not_false_eq_true, Bool.false_eq_true, Bool.true_eq_false, reduceCtorEq]
  rfl
theorem Top_eq {n i : Int} (h0 : 1 ≤ n) (h : n ≤ 65536) (hi : 0 ≤ i) (hi2 : i ≤ 2048) : place_Top n i = some (leaves n + i / 64, i % 64) := by
  unfold place_Top
  have := leaves_b h0 h
  rw [Leaves_eq (by omega) h]
  simp (disch := omega) only [i64_quo, Int.tmod_eq_emod_of_nonneg hi, i64_in, u64_in, u32_in, u8_in, u16_in, Option.bind_some, Option.bind_none, Option.bind_eq_bind, ↓Bool.cond_eq_ite, decide_eq_true_eq, beq_iff_eq, bne_iff_ne, ne_eq, Bool.not_eq_true', Bool.not_eq_true, Bool.not_eq_false', Bool.not_not, decide_eq_false_iff_not, if_pos, if_neg, reduceIte, not_true_eq_false, not_false_eq_true, Bool.false_eq_true, Bool.true_eq_false, reduceCtorEq]
theorem Root_eq {n i : Int} (h0 : 1 ≤ n) (h : n ≤ 65536) (hi : 0 ≤ i) (hi2 : i ≤ 2048) : place_Root n i = some (leaves n + tops n, i / 64) := by
  unfold place_Root
  have := leaves_b h0 h
  have := tops_b h0 h
  rw [Cells_eq h0 h]
  unfold cellsN
  simp (disch := omega) only [i64_quo, i64_in, u64_in, u32_in, u8_in, u16_in, Option.bind_some, Option.bind_none, Option.bind_eq_bind, ↓Bool.cond_eq_ite, decide_eq_true_eq, beq_iff_eq, bne_iff_ne, ne_eq, Bool.not_eq_true', Bool.not_eq_true, Bool.not_eq_false', Bool.not_not, decide_eq_false_iff_not, if_pos, if_neg, reduceIte, not_true_eq_false, not_false_eq_true, Bool.false_eq_true, Bool.true_eq_false, reduceCtorEq]
  congr 2; omega
theorem rLeaves_l (N : Int) (h0 : 1 ≤ N) (h : N ≤ 65536) : ∀ (d n : Nat) (k : Int), d < n → 0 ≤ k → (leaves N - k).toNat = d → k ≤ leaves N → lodgerref06_Leaves_l0 n N k = some (leaves N) := by
  have hl := leaves_b h0 h
  intro d
  induction d with
  | zero =>
    intro n k hn h1 h2 h3
    obtain ⟨m, rfl⟩ : ∃ m, n = m + 1 := ⟨n - 1, by omega⟩
    rw [su0_lodgerref06_Leaves]
    unfold lodgerref06_Leaves_s0
    simp (disch := omega) only [i64_in, u64_in, u32_in, u8_in, u16_in, Option.bind_some, Option.bind_none, Option.bind_eq_bind, ↓Bool.cond_eq_ite, decide_eq_true_eq, beq_iff_eq, bne_iff_ne, ne_eq, Bool.not_eq_true', Bool.not_eq_true, Bool.not_eq_false', Bool.not_not, decide_eq_false_iff_not, if_pos, if_neg, reduceIte, not_true_eq_false, not_false_eq_true, Bool.false_eq_true, Bool.true_eq_false, reduceCtorEq]
    congr 1; omega
  | succ d ih =>
    intro n k hn h1 h2 h3
    obtain ⟨m, rfl⟩ : ∃ m, n = m + 1 := ⟨n - 1, by omega⟩
    rw [su0_lodgerref06_Leaves]
    unfold lodgerref06_Leaves_s0
    simp (disch := omega) only [i64_in, u64_in, u32_in, u8_in, u16_in, Option.bind_some, Option.bind_none, Option.bind_eq_bind, ↓Bool.cond_eq_ite, decide_eq_true_eq, beq_iff_eq, bne_iff_ne, ne_eq, Bool.not_eq_true', Bool.not_eq_true, Bool.not_eq_false', Bool.not_not, decide_eq_false_iff_not, if_pos, if_neg, reduceIte, not_true_eq_false, not_false_eq_true, Bool.false_eq_true, Bool.true_eq_false, reduceCtorEq]
    exact ih m (k + 1) (by omega) (by omega) (by omega) (by omega)
theorem rLeaves_eq {n : Int} (h0 : 1 ≤ n) (h : n ≤ 65536) : lodgerref06_Leaves n = some (leaves n) := by
  have := leaves_b h0 h
  exact rLeaves_l n h0 h _ big 0 (big_lt (by omega)) (by omega) rfl (by omega)
theorem rTops_l (N : Int) (h0 : 1 ≤ N) (h : N ≤ 65536) : ∀ (d n : Nat) (k : Int), d < n → 0 ≤ k → (tops N - k).toNat = d → k ≤ tops N → lodgerref06_Tops_l0 n N k = some (tops N) := by
  have hl := leaves_b h0 h
  have ht := tops_b h0 h
  intro d
  induction d with
  | zero =>
    intro n k hn h1 h2 h3
    obtain ⟨m, rfl⟩ : ∃ m, n = m + 1 := ⟨n - 1, by omega⟩
    rw [su0_lodgerref06_Tops]
    unfold lodgerref06_Tops_s0
    rw [rLeaves_eq h0 h]
    simp (disch := omega) only [i64_in, u64_in, u32_in, u8_in, u16_in, Option.bind_some, Option.bind_none, Option.bind_eq_bind, ↓Bool.cond_eq_ite, decide_eq_true_eq, beq_iff_eq, bne_iff_ne, ne_eq, Bool.not_eq_true', Bool.not_eq_true, Bool.not_eq_false', Bool.not_not, decide_eq_false_iff_not, if_pos, if_neg, reduceIte, not_true_eq_false, not_false_eq_true, Bool.false_eq_true, Bool.true_eq_false, reduceCtorEq]
    congr 1; omega
  | succ d ih =>
    intro n k hn h1 h2 h3
    obtain ⟨m, rfl⟩ : ∃ m, n = m + 1 := ⟨n - 1, by omega⟩
    rw [su0_lodgerref06_Tops]
    unfold lodgerref06_Tops_s0
    rw [rLeaves_eq h0 h]
    simp (disch := omega) only [i64_in, u64_in, u32_in, u8_in, u16_in, Option.bind_some, Option.bind_none, Option.bind_eq_bind, ↓Bool.cond_eq_ite, decide_eq_true_eq, beq_iff_eq, bne_iff_ne, ne_eq, Bool.not_eq_true', Bool.not_eq_true, Bool.not_eq_false', Bool.not_not, decide_eq_false_iff_not, if_pos, if_neg, reduceIte, not_true_eq_false, not_false_eq_true, Bool.false_eq_true, Bool.true_eq_false, reduceCtorEq]
    exact ih m (k + 1) (by omega) (by omega) (by omega) (by omega)
theorem rTops_eq {n : Int} (h0 : 1 ≤ n) (h : n ≤ 65536) : lodgerref06_Tops n = some (tops n) := by
  have := tops_b h0 h
  exact rTops_l n h0 h _ big 0 (big_lt (by omega)) (by omega) rfl (by omega)
theorem rCells_eq {n : Int} (h0 : 1 ≤ n) (h : n ≤ 65536) : lodgerref06_Cells n = some (cellsN n) := by
  unfold lodgerref06_Cells
  have := leaves_b h0 h
  have := tops_b h0 h
  rw [rLeaves_eq h0 h, rTops_eq h0 h]
  simp (disch := omega) only [i64_in, u64_in, u32_in, u8_in, u16_in, Option.bind_some, Option.bind_none, Option.bind_eq_bind, ↓Bool.cond_eq_ite, decide_eq_true_eq, beq_iff_eq, bne_iff_ne, ne_eq, Bool.not_eq_true', Bool.not_eq_true, Bool.not_eq_false', Bool.not_not, decide_eq_false_iff_not, if_pos, if_neg, reduceIte, not_true_eq_false, not_false_eq_true, Bool.false_eq_true, Bool.true_eq_false, reduceCtorEq]
  rfl
theorem rTop_eq {n i : Int} (h0 : 1 ≤ n) (h : n ≤ 65536) (hi : 0 ≤ i) (hi2 : i ≤ 2048) : lodgerref06_Top n i = some (leaves n + i / 64, i % 64) := by
  unfold lodgerref06_Top
  have := leaves_b h0 h
  rw [rLeaves_eq h0 h]
  simp (disch := omega) only [i64_quo, i64_in, u64_in, u32_in, u8_in, u16_in, Option.bind_some, Option.bind_none, Option.bind_eq_bind, ↓Bool.cond_eq_ite, decide_eq_true_eq, beq_iff_eq, bne_iff_ne, ne_eq, Bool.not_eq_true', Bool.not_eq_true, Bool.not_eq_false', Bool.not_not, decide_eq_false_iff_not, if_pos, if_neg, reduceIte, not_true_eq_false, not_false_eq_true, Bool.false_eq_true, Bool.true_eq_false, reduceCtorEq]
  congr 2; omega
theorem rRoot_eq {n i : Int} (h0 : 1 ≤ n) (h : n ≤ 65536) (hi : 0 ≤ i) (hi2 : i ≤ 2048) : lodgerref06_Root n i = some (leaves n + tops n, i / 64) := by
  unfold lodgerref06_Root
  have := leaves_b h0 h
  have := tops_b h0 h
  rw [rLeaves_eq h0 h, rTops_eq h0 h]
  simp (disch := omega) only [i64_quo, i64_in, u64_in, u32_in, u8_in, u16_in, Option.bind_some, Option.bind_none, Option.bind_eq_bind, ↓Bool.cond_eq_ite, decide_eq_true_eq, beq_iff_eq, bne_iff_ne, ne_eq, Bool.not_eq_true', Bool.not_eq_true, Bool.not_eq_false', Bool.not_not, decide_eq_false_iff_not, if_pos, if_neg, reduceIte, not_true_eq_false, not_false_eq_true, Bool.false_eq_true, Bool.true_eq_false, reduceCtorEq]

def Divs (b : Block) : Prop := b.base % many b = 0
/-- What a configuration that may be is. -/
structure OKc (c : Conf) : Prop where
  blk : OKb c.block
  base : Divs c.block
  few : c.held.length ≤ 64
  held : ∀ i : Int, 0 ≤ i → i < (c.held.length : Int) → 0 ≤ gt c.held i ∧ gt c.held i < many c.block ∧ (0 < i → gt c.held (i - 1) < gt c.held i)
  sh : 1 ≤ c.shards ∧ c.shards ≤ 64
  wo : 1 ≤ c.workers ∧ c.workers ≤ 64
  qu : 1 ≤ c.queue ∧ c.queue ≤ 64
  tr : 1 ≤ c.tries ∧ c.tries ≤ 8
theorem rMay_l (c : Conf) (hb : OKb c.block) (hh : c.held.length ≤ 64) : ∀ (d n : Nat) (i : Int), d < n → 0 ≤ i → ((c.held.length : Int) - i).toNat = d → i ≤ c.held.length →
    ∃ b, lodgerref05_May_l0 n i c = some b ∧ (b = true → ∀ j : Int, i ≤ j → j < (c.held.length : Int) → 0 ≤ gt c.held j ∧ gt c.held j < many c.block ∧ (0 < j → gt c.held (j - 1) < gt c.held j)) := by
  intro d
  induction d with
  | zero =>
    intro n i hn h1 h2 h3
    obtain ⟨m, rfl⟩ : ∃ m, n = m + 1 := ⟨n - 1, by omega⟩
    rw [su0_lodgerref05_May]
    unfold lodgerref05_May_s0
    simp (disch := omega) only [i64_in, u64_in, u32_in, u8_in, u16_in, Option.bind_some, Option.bind_none, Option.bind_eq_bind, ↓Bool.cond_eq_ite, decide_eq_true_eq, beq_iff_eq, bne_iff_ne, ne_eq, Bool.not_eq_true', Bool.not_eq_true, Bool.not_eq_false', Bool.not_not, decide_eq_false_iff_not, if_pos, if_neg, reduceIte, not_true_eq_false, not_false_eq_true, Bool.false_eq_true, Bool.true_eq_false, reduceCtorEq]
    exact ⟨true, rfl, fun _ j q1 q2 => by omega⟩
  | succ d ih =>
    intro n i hn h1 h2 h3
    obtain ⟨m, rfl⟩ : ∃ m, n = m + 1 := ⟨n - 1, by omega⟩
    rw [su0_lodgerref05_May]
    unfold lodgerref05_May_s0
    simp (disch := omega) only [geti_eq h1 (show i < (c.held.length : Int) by omega), rMany_eq hb, i64_in, u64_in, u32_in, u8_in, u16_in, Option.bind_some, Option.bind_none, Option.bind_eq_bind, ↓Bool.cond_eq_ite, decide_eq_true_eq, beq_iff_eq, bne_iff_ne, ne_eq, Bool.not_eq_true', Bool.not_eq_true, Bool.not_eq_false', Bool.not_not, decide_eq_false_iff_not, if_pos, if_neg, reduceIte, not_true_eq_false, not_false_eq_true, Bool.false_eq_true, Bool.true_eq_false, reduceCtorEq]
    obtain ⟨b, e, hi⟩ := ih m (i + 1) (by omega) (by omega) (by omega) (by omega)
    by_cases c1 : gt c.held i < 0
    · simp (disch := omega) only [i64_in, u64_in, u32_in, u8_in, u16_in, Option.bind_some, Option.bind_none, Option.bind_eq_bind, ↓Bool.cond_eq_ite, decide_eq_true_eq, beq_iff_eq, bne_iff_ne, ne_eq, Bool.not_eq_true', Bool.not_eq_true, Bool.not_eq_false', Bool.not_not, decide_eq_false_iff_not, if_pos, if_neg, reduceIte, not_true_eq_false, not_false_eq_true, Bool.false_eq_true, Bool.true_eq_false, reduceCtorEq]; exact ⟨false, rfl, fun h => by cases h⟩
    by_cases c2 : gt c.held i ≥ many c.block
    · simp (disch := omega) only [i64_in, u64_in, u32_in, u8_in, u16_in, Option.bind_some, Option.bind_none, Option.bind_eq_bind, ↓Bool.cond_eq_ite, decide_eq_true_eq, beq_iff_eq, bne_iff_ne, ne_eq, Bool.not_eq_true', Bool.not_eq_true, Bool.not_eq_false', Bool.not_not, decide_eq_false_iff_not, if_pos, if_neg, reduceIte, not_true_eq_false, not_false_eq_true, Bool.false_eq_true, Bool.true_eq_false, reduceCtorEq]; exact ⟨false, rfl, fun h => by cases h⟩
    by_cases c3 : 0 < i
    · simp (disch := omega) only [geti_eq (show 0 ≤ i - 1 by omega) (show i - 1 < (c.held.length : Int) by omega), i64_in, u64_in, u32_in, u8_in, u16_in, Option.bind_some, Option.bind_none, Option.bind_eq_bind, ↓Bool.cond_eq_ite, decide_eq_true_eq, beq_iff_eq, bne_iff_ne, ne_eq, Bool.not_eq_true', Bool.not_eq_true, Bool.not_eq_false', Bool.not_not, decide_eq_false_iff_not, if_pos, if_neg, reduceIte, not_true_eq_false, not_false_eq_true, Bool.false_eq_true, Bool.true_eq_false, reduceCtorEq]
      by_cases c4 : gt c.held i ≤ gt c.held (i - 1)
      · simp (disch := omega) only [i64_in, u64_in, u32_in, u8_in, u16_in, Option.bind_some, Option.bind_none, Option.bind_eq_bind, ↓Bool.cond_eq_ite, decide_eq_true_eq, beq_iff_eq, bne_iff_ne, ne_eq, Bool.not_eq_true', Bool.not_eq_true, Bool.not_eq_false', Bool.not_not, decide_eq_false_iff_not, if_pos, if_neg, reduceIte, not_true_eq_false, not_false_eq_true, Bool.false_eq_true, Bool.true_eq_false, reduceCtorEq]; exact ⟨false, rfl, fun h => by cases h⟩
      · simp (disch := omega) only [i64_in, u64_in, u32_in, u8_in, u16_in, Option.bind_some, Option.bind_none, Option.bind_eq_bind, ↓Bool.cond_eq_ite, decide_eq_true_eq, beq_iff_eq, bne_iff_ne, ne_eq, Bool.not_eq_true', Bool.not_eq_true, Bool.not_eq_false', Bool.not_not, decide_eq_false_iff_not, if_pos, if_neg, reduceIte, not_true_eq_false, not_false_eq_true, Bool.false_eq_true, Bool.true_eq_false, reduceCtorEq]
        refine ⟨b, e, fun hb j q1 q2 => ?_⟩
        by_cases ej : j = i
        · subst ej; exact ⟨by omega, by omega, fun _ => by omega⟩
        · exact hi hb j (by omega) q2
    · simp (disch := omega) only [i64_in, u64_in, u32_in, u8_in, u16_in, Option.bind_some, Option.bind_none, Option.bind_eq_bind, ↓Bool.cond_eq_ite, decide_eq_true_eq, beq_iff_eq, bne_iff_ne, ne_eq, Bool.not_eq_true', Bool.not_eq_true, Bool.not_eq_false', Bool.not_not, decide_eq_false_iff_not, if_pos, if_neg, reduceIte, not_true_eq_false, not_false_eq_true, Bool.false_eq_true, Bool.true_eq_false, reduceCtorEq]
      refine ⟨b, e, fun hb j q1 q2 => ?_⟩
      by_cases ej : j = i
      · subst ej; exact ⟨by omega, by omega, fun _ => by omega⟩
      · exact hi hb j (by omega) q2
theorem rMay4_eq {b : Block} (hb : WBlock b) : ∃ r, lodgerref04_May b = some r ∧ (r = true → OKb b ∧ Divs b) := by
  obtain ⟨⟨b1, b2⟩, h1, h2⟩ := hb
  unfold lodgerref04_May
  by_cases c1 : b.pre ≥ 16
  · by_cases c2 : b.pre ≤ 32
    · have hm := many_b ⟨c1, c2⟩
      have e := rMany4_eq c1 c2
      rw [show (2 : Int) ^ (32 - b.pre).toNat = many b from rfl] at e
      simp (disch := omega) only [e, Int.tmod_eq_emod_of_nonneg b1, i64_in, u64_in, u32_in, u8_in, u16_in, Option.bind_some, Option.bind_none, Option.bind_eq_bind, ↓Bool.cond_eq_ite, decide_eq_true_eq, beq_iff_eq, bne_iff_ne, ne_eq, Bool.not_eq_true', Bool.not_eq_true, Bool.not_eq_false', Bool.not_not, decide_eq_false_iff_not, if_pos, if_neg, reduceIte, not_true_eq_false, not_false_eq_true, Bool.false_eq_true, Bool.true_eq_false, reduceCtorEq]
      exact ⟨_, rfl, fun h => ⟨⟨c1, c2⟩, by unfold Divs; simpa using h⟩⟩
    · simp (disch := omega) only [i64_in, u64_in, u32_in, u8_in, u16_in, Option.bind_some, Option.bind_none, Option.bind_eq_bind, ↓Bool.cond_eq_ite, decide_eq_true_eq, beq_iff_eq, bne_iff_ne, ne_eq, Bool.not_eq_true', Bool.not_eq_true, Bool.not_eq_false', Bool.not_not, decide_eq_false_iff_not, if_pos, if_neg, reduceIte, not_true_eq_false, not_false_eq_true, Bool.false_eq_true, Bool.true_eq_false, reduceCtorEq]; exact ⟨false, rfl, fun h => by cases h⟩
  · simp (disch := omega) only [i64_in, u64_in, u32_in, u8_in, u16_in, Option.bind_some, Option.bind_none, Option.bind_eq_bind, ↓Bool.cond_eq_ite, decide_eq_true_eq, beq_iff_eq, bne_iff_ne, ne_eq, Bool.not_eq_true', Bool.not_eq_true, Bool.not_eq_false', Bool.not_not, decide_eq_false_iff_not, if_pos, if_neg, reduceIte, not_true_eq_false, not_false_eq_true, Bool.false_eq_true, Bool.true_eq_false, reduceCtorEq]; exact ⟨false, rfl, fun h => by cases h⟩
theorem rMay_eq {c : Conf} (hc : WConf c) : ∃ b, lodgerref05_May c = some b ∧ (b = true → OKc c) := by
  unfold lodgerref05_May lodgerref05_May_n lodgerref05_May_e
  obtain ⟨r, e, hr⟩ := rMay4_eq hc.block
  rw [e]
  cases r
  · exact ⟨false, rfl, fun h => by cases h⟩
  simp only [Option.bind_some, Option.bind_none, Option.bind_eq_bind, ↓Bool.cond_eq_ite, decide_eq_true_eq, beq_iff_eq, bne_iff_ne, ne_eq, Bool.not_eq_true', Bool.not_eq_true, Bool.not_eq_false', Bool.not_not, decide_eq_false_iff_not, reduceIte, not_true_eq_false, not_false_eq_true, Bool.false_eq_true, Bool.true_eq_false, reduceCtorEq]
  obtain ⟨hb, hb2⟩ := hr rfl
  split
  · exact ⟨false, rfl, fun h => by cases h⟩
  split
  · exact ⟨false, rfl, fun h => by cases h⟩
  split
  · exact ⟨false, rfl, fun h => by cases h⟩
  split
  · exact ⟨false, rfl, fun h => by cases h⟩
  split
  · exact ⟨false, rfl, fun h => by cases h⟩
  split
  · exact ⟨false, rfl, fun h => by cases h⟩
  split
  · exact ⟨false, rfl, fun h => by cases h⟩
  split
  · exact ⟨false, rfl, fun h => by cases h⟩
  split
  · exact ⟨false, rfl, fun h => by cases h⟩
  obtain ⟨b, e, hi⟩ := rMay_l c hb (by omega) c.held.length big 0 (big_lt (by omega)) (by omega) (by omega) (by omega)
  exact ⟨b, e, fun h => ⟨hb, hb2, by omega, fun i q1 q2 => hi h i q1 q2, by omega, by omega, by omega, by omega⟩⟩
end
end Go.Lv.Ld
