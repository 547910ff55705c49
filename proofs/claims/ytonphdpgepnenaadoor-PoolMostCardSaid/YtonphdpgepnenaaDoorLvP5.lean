import Derived.Test.YtonphdpgepnenaaDoorLvP4
namespace Go.Lv.Ld
set_option linter.all false
noncomputable section
open Go Go.Lv Go.IntWalk

def ins (b : Block) (a : Int) : Prop := b.base ≤ a ∧ a < b.base + many b
instance (b : Block) (a : Int) : Decidable (ins b a) := by unfold ins; infer_instance
def off (b : Block) (a : Int) : Int := if ins b a then a - b.base else 0
theorem off_b {b : Block} (h : OKb b) (a : Int) : 0 ≤ off b a ∧ off b a < many b := by
  have := many_b h
  unfold off
  by_cases c : ins b a
  · rw [if_pos c]; unfold ins at c; omega
  · rw [if_neg c]; omega
theorem Offset_eq {b : Block} {a : Int} (h : OKb b) (hb : U32 b.base) (ha : U32 a) : block_Offset b a = some (if ins b a then (a - b.base, 0) else (0, 3)) := by
  unfold block_Offset
  have := many_b h
  unfold U32 at *
  rw [Many_eq h]
  by_cases c : b.base ≤ a
  · by_cases d : a < b.base + many b
    · simp (disch := omega) only [i64_in, u64_in, u32_in, u8_in, u16_in, Option.bind_some, Option.bind_none, Option.bind_eq_bind, ↓Bool.cond_eq_ite, decide_eq_true_eq, beq_iff_eq, bne_iff_ne, ne_eq, Bool.not_eq_true', Bool.not_eq_true, Bool.not_eq_false', Bool.not_not, decide_eq_false_iff_not, if_pos, if_neg, reduceIte, not_true_eq_false, not_false_eq_true, Bool.false_eq_true, Bool.true_eq_false, reduceCtorEq]
      rw [if_pos ⟨c, d⟩]
    · simp (disch := omega) only [i64_in, u64_in, u32_in, u8_in, u16_in, Option.bind_some, Option.bind_none, Option.bind_eq_bind, ↓Bool.cond_eq_ite, decide_eq_true_eq, beq_iff_eq, bne_iff_ne, ne_eq, Bool.not_eq_true', Bool.not_eq_true, Bool.not_eq_false', Bool.not_not, decide_eq_false_iff_not, if_pos, if_neg, reduceIte, not_true_eq_false, not_false_eq_true, Bool.false_eq_true, Bool.true_eq_false, reduceCtorEq]
      rw [if_neg (fun q : ins b a => d q.2)]
  · simp (disch := omega) only [i64_in, u64_in, u32_in, u8_in, u16_in, Option.bind_some, Option.bind_none, Option.bind_eq_bind, ↓Bool.cond_eq_ite, decide_eq_true_eq, beq_iff_eq, bne_iff_ne, ne_eq, Bool.not_eq_true', Bool.not_eq_true, Bool.not_eq_false', Bool.not_not, decide_eq_false_iff_not, if_pos, if_neg, reduceIte, not_true_eq_false, not_false_eq_true, Bool.false_eq_true, Bool.true_eq_false, reduceCtorEq]
    rw [if_neg (fun q : ins b a => c q.1)]
theorem rOffset_eq {b : Block} {a : Int} (h : OKb b) (hb : U32 b.base) (ha : U32 a) : lodgerref05_Offset b a = some (if ins b a then (a - b.base, 0) else (0, 3)) := by
  unfold lodgerref05_Offset
  have := many_b h
  unfold U32 at *
  rw [rMany_eq h]
  by_cases c : b.base ≤ a
  · by_cases d : a < b.base + many b
    · simp (disch := omega) only [i64_in, u64_in, u32_in, u8_in, u16_in, Option.bind_some, Option.bind_none, Option.bind_eq_bind, ↓Bool.cond_eq_ite, decide_eq_true_eq, beq_iff_eq, bne_iff_ne, ne_eq, Bool.not_eq_true', Bool.not_eq_true, Bool.not_eq_false', Bool.not_not, decide_eq_false_iff_not, if_pos, if_neg, reduceIte, not_true_eq_false, not_false_eq_true, Bool.false_eq_true, Bool.true_eq_false, reduceCtorEq]
      rw [if_pos ⟨c, d⟩]
    · simp (disch := omega) only [i64_in, u64_in, u32_in, u8_in, u16_in, Option.bind_some, Option.bind_none, Option.bind_eq_bind, ↓Bool.cond_eq_ite, decide_eq_true_eq, beq_iff_eq, bne_iff_ne, ne_eq, Bool.not_eq_true', Bool.not_eq_true, Bool.not_eq_false', Bool.not_not, decide_eq_false_iff_not, if_pos, if_neg, reduceIte, not_true_eq_false, not_false_eq_true, Bool.false_eq_true, Bool.true_eq_false, reduceCtorEq]
      rw [if_neg (fun q : ins b a => d q.2)]
  · simp (disch := omega) only [i64_in, u64_in, u32_in, u8_in, u16_in, Option.bind_some, Option.bind_none, Option.bind_eq_bind, ↓Bool.cond_eq_ite, decide_eq_true_eq, beq_iff_eq, bne_iff_ne, ne_eq, Bool.not_eq_true', Bool.not_eq_true, Bool.not_eq_false', Bool.not_not, decide_eq_false_iff_not, if_pos, if_neg, reduceIte, not_true_eq_false, not_false_eq_true, Bool.false_eq_true, Bool.true_eq_false, reduceCtorEq]
    rw [if_neg (fun q : ins b a => c q.1)]
theorem off_1 (b : Block) (a : Int) : (if ins b a then (a - b.base, (0 : Int)) else (0, 3)).1 = off b a := by unfold off; split <;> rfl
theorem Leaf_eq {o : Int} (h0 : 0 ≤ o) (h : o ≤ 65536) : place_Leaf o = some (o / 32, o % 32) := by
  unfold place_Leaf
  simp (disch := omega) only [i64_quo, Int.tmod_eq_emod_of_nonneg h0, i64_in, u64_in, u32_in, u8_in, u16_in, Option.bind_some, Option.bind_none, Option.bind_eq_bind, ↓Bool.cond_eq_ite, decide_eq_true_eq, beq_iff_eq, bne_iff_ne, ne_eq, Bool.not_eq_true', Bool.not_eq_true, Bool.not_eq_false', Bool.not_not, decide_eq_false_iff_not, if_pos, if_neg, reduceIte, not_true_eq_false, not_false_eq_true, Bool.false_eq_true, Bool.true_eq_false, reduceCtorEq]

def goes (c : Conf) (o : Oq) : Oq :=
  if o.ask.kind = 4 ∧ o.item + 1 < (o.ask.addrs.length : Int) then
    { o with phase := 8, leaf := off c.block (gt o.ask.addrs (o.item + 1)) / 32, bit := off c.block (gt o.ask.addrs (o.item + 1)) % 32, word := 0, full := false, at_ := 0, item := o.item + 1 }
  else { o with phase := 0, word := 0, full := false, at_ := 0 }
theorem Goes_eq {c : Conf} {o : Oq} (h : OKb c.block) (hb : U32 c.block.base) (ha : ∀ x, x ∈ o.ask.addrs → U32 x) (hi : 0 ≤ o.item) (hi2 : o.item ≤ 1000000) : hint_Goes c o = some (goes c o) := by
  unfold hint_Goes goes
  by_cases k : o.ask.kind = 4
  · by_cases i : o.item + 1 < (o.ask.addrs.length : Int)
    · have hm := gt_mem (l := o.ask.addrs) (i := o.item + 1) (by omega) i
      have ho := off_b h (gt o.ask.addrs (o.item + 1))
      have hm2 := many_b h
      simp (disch := omega) only [geti_eq (show 0 ≤ o.item + 1 by omega) i, Offset_eq h hb (ha _ hm), off_1, Leaf_eq ho.1 (show off c.block (gt o.ask.addrs (o.item + 1)) ≤ 65536 by omega), i64_in, u64_in, u32_in, u8_in, u16_in, Option.bind_some, Option.bind_none, Option.bind_eq_bind, ↓Bool.cond_eq_ite, decide_eq_true_eq, beq_iff_eq, bne_iff_ne, ne_eq, Bool.not_eq_true', Bool.not_eq_true, Bool.not_eq_false', Bool.not_not, decide_eq_false_iff_not, if_pos, if_neg, reduceIte, not_true_eq_false, not_false_eq_true, Bool.false_eq_true, Bool.true_eq_false, reduceCtorEq]
    · simp (disch := omega) only [i64_in, u64_in, u32_in, u8_in, u16_in, Option.bind_some, Option.bind_none, Option.bind_eq_bind, ↓Bool.cond_eq_ite, decide_eq_true_eq, beq_iff_eq, bne_iff_ne, ne_eq, Bool.not_eq_true', Bool.not_eq_true, Bool.not_eq_false', Bool.not_not, decide_eq_false_iff_not, if_pos, if_neg, reduceIte, not_true_eq_false, not_false_eq_true, Bool.false_eq_true, Bool.true_eq_false, reduceCtorEq]
  · simp (disch := omega) only [i64_in, u64_in, u32_in, u8_in, u16_in, Option.bind_some, Option.bind_none, Option.bind_eq_bind, ↓Bool.cond_eq_ite, decide_eq_true_eq, beq_iff_eq, bne_iff_ne, ne_eq, Bool.not_eq_true', Bool.not_eq_true, Bool.not_eq_false', Bool.not_not, decide_eq_false_iff_not, if_pos, if_neg, reduceIte, not_true_eq_false, not_false_eq_true, Bool.false_eq_true, Bool.true_eq_false, reduceCtorEq]
theorem rGoes_eq {c : Conf} {o : Oq} (h : OKb c.block) (hb : U32 c.block.base) (ha : ∀ x, x ∈ o.ask.addrs → U32 x) (hi : 0 ≤ o.item) (hi2 : o.item ≤ 1000000) : lodgerref08_Goes c o = some (goes c o) := by
  unfold lodgerref08_Goes goes
  by_cases k : o.ask.kind = 4
  · by_cases i : o.item + 1 < (o.ask.addrs.length : Int)
    · have hm := gt_mem (l := o.ask.addrs) (i := o.item + 1) (by omega) i
      have ho := off_b h (gt o.ask.addrs (o.item + 1))
      have hm2 := many_b h
      simp (disch := omega) only [geti_eq (show 0 ≤ o.item + 1 by omega) i, rOffset_eq h hb (ha _ hm), off_1, i64_quo, Int.tmod_eq_emod_of_nonneg ho.1, i64_in, u64_in, u32_in, u8_in, u16_in, Option.bind_some, Option.bind_none, Option.bind_eq_bind, ↓Bool.cond_eq_ite, decide_eq_true_eq, beq_iff_eq, bne_iff_ne, ne_eq, Bool.not_eq_true', Bool.not_eq_true, Bool.not_eq_false', Bool.not_not, decide_eq_false_iff_not, if_pos, if_neg, reduceIte, not_true_eq_false, not_false_eq_true, Bool.false_eq_true, Bool.true_eq_false, reduceCtorEq]
    · simp (disch := omega) only [i64_in, u64_in, u32_in, u8_in, u16_in, Option.bind_some, Option.bind_none, Option.bind_eq_bind, ↓Bool.cond_eq_ite, decide_eq_true_eq, beq_iff_eq, bne_iff_ne, ne_eq, Bool.not_eq_true', Bool.not_eq_true, Bool.not_eq_false', Bool.not_not, decide_eq_false_iff_not, if_pos, if_neg, reduceIte, not_true_eq_false, not_false_eq_true, Bool.false_eq_true, Bool.true_eq_false, reduceCtorEq]
  · simp (disch := omega) only [i64_in, u64_in, u32_in, u8_in, u16_in, Option.bind_some, Option.bind_none, Option.bind_eq_bind, ↓Bool.cond_eq_ite, decide_eq_true_eq, beq_iff_eq, bne_iff_ne, ne_eq, Bool.not_eq_true', Bool.not_eq_true, Bool.not_eq_false', Bool.not_not, decide_eq_false_iff_not, if_pos, if_neg, reduceIte, not_true_eq_false, not_false_eq_true, Bool.false_eq_true, Bool.true_eq_false, reduceCtorEq]

/-- Cells that fit a configuration. -/
structure Fit (c : Conf) (l : List Int) : Prop where
  ok : OKc c
  few : many c.block ≤ 4096
  len : (l.length : Int) = cellsN (many c.block)
  u : ∀ x, x ∈ l → U64 x
theorem Fit.small {c : Conf} {l : List Int} (h : Fit c l) : l.length ≤ 137438953472 := by
  have := h.len; have := h.few; have := many_b h.ok.blk
  have := leaves_b this.1 this.2; have := tops_b (n := many c.block) (by omega) (by omega)
  unfold cellsN at *; omega
theorem rFits_eq {c : Conf} {l : List Int} (hc : WConf c) (hl : ∀ x, x ∈ l → U64 x) : ∃ b, lodgerref08_Fits c l = some b ∧ (b = true → Fit c l) := by
  unfold lodgerref08_Fits
  obtain ⟨b, e, hb⟩ := rMay_eq hc
  rw [e]
  cases b
  · exact ⟨false, rfl, fun h => by cases h⟩
  have ok := hb rfl
  have hm := many_b ok.blk
  rw [rMany_eq ok.blk, Option.bind_some, Option.bind_some, Option.bind_some, rCells_eq hm.1 hm.2]
  by_cases q : many c.block ≤ 4096
  · refine ⟨_, by simp only [Option.bind_some, Option.bind_none, Option.bind_eq_bind, ↓Bool.cond_eq_ite, decide_eq_true_eq, beq_iff_eq, bne_iff_ne, ne_eq, Bool.not_eq_true', Bool.not_eq_true, Bool.not_eq_false', Bool.not_not, decide_eq_false_iff_not, reduceIte, not_true_eq_false, not_false_eq_true, Bool.false_eq_true, Bool.true_eq_false, reduceCtorEq]; rw [if_pos q], fun h => ⟨ok, q, by simpa using h, hl⟩⟩
  · exact ⟨false, by simp only [Option.bind_some, Option.bind_none, Option.bind_eq_bind, ↓Bool.cond_eq_ite, decide_eq_true_eq, beq_iff_eq, bne_iff_ne, ne_eq, Bool.not_eq_true', Bool.not_eq_true, Bool.not_eq_false', Bool.not_not, decide_eq_false_iff_not, reduceIte, not_true_eq_false, not_false_eq_true, Bool.false_eq_true, Bool.true_eq_false, reduceCtorEq]; rw [if_neg q], fun h => by cases h⟩
/-- Operations whose leaf there is. -/
structure WhO (c : Conf) (o : Oq) : Prop where
  leaf0 : 0 ≤ o.leaf
  leaf1 : o.leaf < leaves (many c.block)
  item0 : 0 ≤ o.item
  item1 : o.item ≤ 1000
  at0 : 0 ≤ o.at_
  at1 : o.at_ ≤ 1
  la : o.ask.addrs.length ≤ 100
  ls : o.seen.length ≤ 300
  lx : o.answer.addrs.length ≤ 300
  le : o.answer.errs.length ≤ 300
  ins : ∀ j : Int, 0 ≤ j → j < (o.ask.addrs.length : Int) → ins c.block (gt o.ask.addrs j)
theorem rWhole_l (c : Conf) (o : Oq) (ok : OKb c.block) (hb : U32 c.block.base) (ha : ∀ x, x ∈ o.ask.addrs → U32 x) (hl : o.ask.addrs.length ≤ 100) : ∀ (d n : Nat) (i : Int), d < n → 0 ≤ i → ((o.ask.addrs.length : Int) - i).toNat = d → i ≤ o.ask.addrs.length →
    ∃ b, lodgerref08_Whole_l0 n i c o = some b ∧ (b = true → ∀ j : Int, i ≤ j → j < (o.ask.addrs.length : Int) → ins c.block (gt o.ask.addrs j)) := by
  intro d
  induction d with
  | zero =>
    intro n i hn h1 h2 h3
    obtain ⟨m, rfl⟩ : ∃ m, n = m + 1 := ⟨n - 1, by omega⟩
    rw [su0_lodgerref08_Whole]
    unfold lodgerref08_Whole_s0
    simp (disch := omega) only [i64_in, u64_in, u32_in, u8_in, u16_in, Option.bind_some, Option.bind_none, Option.bind_eq_bind, ↓Bool.cond_eq_ite, decide_eq_true_eq, beq_iff_eq, bne_iff_ne, ne_eq, Bool.not_eq_true', Bool.not_eq_true, Bool.not_eq_false', Bool.not_not, decide_eq_false_iff_not, if_pos, if_neg, reduceIte, not_true_eq_false, not_false_eq_true, Bool.false_eq_true, Bool.true_eq_false, reduceCtorEq]
    exact ⟨true, rfl, fun _ j q1 q2 => by omega⟩
  | succ d ih =>
    intro n i hn h1 h2 h3
    obtain ⟨m, rfl⟩ : ∃ m, n = m + 1 := ⟨n - 1, by omega⟩
    rw [su0_lodgerref08_Whole]
    unfold lodgerref08_Whole_s0
    obtain ⟨b, e, hi⟩ := ih m (i + 1) (by omega) (by omega) (by omega) (by omega)
    have hm := gt_mem (l := o.ask.addrs) (i := i) h1 (by omega)
    by_cases q : ins c.block (gt o.ask.addrs i)
    · simp (disch := omega) only [geti_eq h1 (show i < (o.ask.addrs.length : Int) by omega), rOffset_eq ok hb (ha _ hm), q, i64_in, u64_in, u32_in, u8_in, u16_in, Option.bind_some, Option.bind_none, Option.bind_eq_bind, ↓Bool.cond_eq_ite, decide_eq_true_eq, beq_iff_eq, bne_iff_ne, ne_eq, Bool.not_eq_true', Bool.not_eq_true, Bool.not_eq_false', Bool.not_not, decide_eq_false_iff_not, if_pos, if_neg, reduceIte, not_true_eq_false, not_false_eq_true, Bool.false_eq_true, Bool.true_eq_false, reduceCtorEq]
      refine ⟨b, e, fun hb j q1 q2 => ?_⟩
      by_cases ej : j = i
      · subst ej; exact q
      · exact hi hb j (by omega) q2
    · simp (disch := omega) only [geti_eq h1 (show i < (o.ask.addrs.length : Int) by omega), rOffset_eq ok hb (ha _ hm), q, i64_in, u64_in, u32_in, u8_in, u16_in, Option.bind_some, Option.bind_none, Option.bind_eq_bind, ↓Bool.cond_eq_ite, decide_eq_true_eq, beq_iff_eq, bne_iff_ne, ne_eq, Bool.not_eq_true', Bool.not_eq_true, Bool.not_eq_false', Bool.not_not, decide_eq_false_iff_not, if_pos, if_neg, reduceIte, not_true_eq_false, not_false_eq_true, Bool.false_eq_true, Bool.true_eq_false, reduceCtorEq]
      exact ⟨false, rfl, fun h => by cases h⟩
theorem rWhole_eq {c : Conf} {o : Oq} (ok : OKb c.block) (hc : WConf c) (ho : WOp o) : ∃ b, lodgerref08_Whole c o = some b ∧ (b = true → WhO c o) := by
  unfold lodgerref08_Whole lodgerref08_Whole_n lodgerref08_Whole_e
  have hm := many_b ok
  rw [rMany_eq ok, Option.bind_some, rLeaves_eq hm.1 hm.2]
  simp only [Option.bind_some, Option.bind_none, Option.bind_eq_bind, ↓Bool.cond_eq_ite, decide_eq_true_eq, beq_iff_eq, bne_iff_ne, ne_eq, Bool.not_eq_true', Bool.not_eq_true, Bool.not_eq_false', Bool.not_not, decide_eq_false_iff_not, reduceIte, not_true_eq_false, not_false_eq_true, Bool.false_eq_true, Bool.true_eq_false, reduceCtorEq]
  split
  · exact ⟨false, rfl, fun h => by cases h⟩
  split
  · exact ⟨false, rfl, fun h => by cases h⟩
  split
  · exact ⟨false, rfl, fun h => by cases h⟩
  split
  · exact ⟨false, rfl, fun h => by cases h⟩
  split
  · exact ⟨false, rfl, fun h => by cases h⟩
  split
  · exact ⟨false, rfl, fun h => by cases h⟩
  split
  · exact ⟨false, rfl, fun h => by cases h⟩
  split
  · exact ⟨false, rfl, fun h => by cases h⟩
  split
  · exact ⟨false, rfl, fun h => by cases h⟩
  split
  · exact ⟨false, rfl, fun h => by cases h⟩
  obtain ⟨b, e, hi⟩ := rWhole_l c o ok hc.block.base ho.ask.addrs.2 (by omega) o.ask.addrs.length big 0 (big_lt (by omega)) (by omega) (by omega) (by omega)
  exact ⟨b, e, fun h => ⟨by omega, by omega, by omega, by omega, by omega, by omega, by omega, by omega, by omega, by omega, hi h⟩⟩

/-- The cell, and the bit, that is marked. -/
def wh (c : Conf) (o : Oq) : Int × Int := if o.at_ = 1 then (leaves (many c.block) + tops (many c.block), o.leaf / 64) else (leaves (many c.block) + o.leaf / 64, o.leaf % 64)
theorem wh_b {c : Conf} {l : List Int} {o : Oq} (hf : Fit c l) (h0 : 0 ≤ o.leaf) (h1 : o.leaf < leaves (many c.block)) : 0 ≤ (wh c o).1 ∧ (wh c o).1 < (l.length : Int) ∧ 0 ≤ (wh c o).2 ∧ (wh c o).2 < 64 := by
  have hm := many_b hf.ok.blk
  have ha := leaves_b hm.1 hm.2; have hb := tops_b hm.1 hm.2
  have hl := hf.len
  unfold cellsN at hl
  unfold wh; split <;> simp only <;> omega
def don (c : Conf) (o : Oq) : Oq := if o.at_ = 1 ∨ (o.full = true ∧ o.word ≠ 18446744073709551615) then goes c o else { o with phase := 4, at_ := 1 }
def hstep (c : Conf) (l : List Int) (o : Oq) : List Int × Oq :=
  if o.phase = 4 then
    (if hs (gt l (wh c o).1) (wh c o).2 = o.full then (l, don c { o with word := gt l (wh c o).1 }) else (l, { o with phase := 5, word := gt l (wh c o).1 }))
  else (if gt l (wh c o).1 = o.word then pt l (wh c o).1 (if o.full then st o.word (wh c o).2 else cl o.word (wh c o).2) else l, don c { o with word := if o.full then st o.word (wh c o).2 else cl o.word (wh c o).2 })
theorem done_eq {c : Conf} {o : Oq} (h : OKb c.block) (hb : U32 c.block.base) (ha : ∀ x, x ∈ o.ask.addrs → U32 x) (hi : 0 ≤ o.item) (hi2 : o.item ≤ 1000000) : hint_done c o = some (don c o) := by
  unfold hint_done don
  rw [Goes_eq h hb ha hi hi2]
  by_cases k : o.at_ = 1
  · simp (disch := omega) only [i64_in, u64_in, u32_in, u8_in, u16_in, Option.bind_some, Option.bind_none, Option.bind_eq_bind, ↓Bool.cond_eq_ite, decide_eq_true_eq, beq_iff_eq, bne_iff_ne, ne_eq, Bool.not_eq_true', Bool.not_eq_true, Bool.not_eq_false', Bool.not_not, decide_eq_false_iff_not, if_pos, if_neg, reduceIte, not_true_eq_false, not_false_eq_true, Bool.false_eq_true, Bool.true_eq_false, reduceCtorEq]
  · cases hf : o.full
    · simp (disch := omega) only [hf, i64_in, u64_in, u32_in, u8_in, u16_in, Option.bind_some, Option.bind_none, Option.bind_eq_bind, ↓Bool.cond_eq_ite, decide_eq_true_eq, beq_iff_eq, bne_iff_ne, ne_eq, Bool.not_eq_true', Bool.not_eq_true, Bool.not_eq_false', Bool.not_not, decide_eq_false_iff_not, if_pos, if_neg, reduceIte, not_true_eq_false, not_false_eq_true, Bool.false_eq_true, Bool.true_eq_false, reduceCtorEq]
      rw [if_neg (by simp [k, hf])]
    · by_cases w : o.word = 18446744073709551615
      · simp (disch := omega) only [hf, w, i64_in, u64_in, u32_in, u8_in, u16_in, Option.bind_some, Option.bind_none, Option.bind_eq_bind, ↓Bool.cond_eq_ite, decide_eq_true_eq, beq_iff_eq, bne_iff_ne, ne_eq, Bool.not_eq_true', Bool.not_eq_true, Bool.not_eq_false', Bool.not_not, decide_eq_false_iff_not, if_pos, if_neg, reduceIte, not_true_eq_false, not_false_eq_true, Bool.false_eq_true, Bool.true_eq_false, reduceCtorEq]
        rw [if_neg (by simp [k, hf, w])]
      · simp (disch := omega) only [hf, w, i64_in, u64_in, u32_in, u8_in, u16_in, Option.bind_some, Option.bind_none, Option.bind_eq_bind, ↓Bool.cond_eq_ite, decide_eq_true_eq, beq_iff_eq, bne_iff_ne, ne_eq, Bool.not_eq_true', Bool.not_eq_true, Bool.not_eq_false', Bool.not_not, decide_eq_false_iff_not, if_pos, if_neg, reduceIte, not_true_eq_false, not_false_eq_true, Bool.false_eq_true, Bool.true_eq_false, reduceCtorEq]
        rw [if_pos (by simp [k, hf, w])]
theorem where_eq {c : Conf} {l : List Int} {o : Oq} (hf : Fit c l) (h0 : 0 ≤ o.leaf) (h1 : o.leaf < leaves (many c.block)) (a0 : 0 ≤ o.at_) (a1 : o.at_ ≤ 1) : hint_where c o = some (wh c o) := by
  unfold hint_where wh
  have hm := many_b hf.ok.blk
  have hl := leaves_b hm.1 hm.2
  rw [Many_eq hf.ok.blk, Option.bind_some, Top_eq hm.1 hm.2 h0 (by omega), Root_eq hm.1 hm.2 h0 (by omega)]
  by_cases k : o.at_ = 1
  · simp (disch := omega) only [k, i64_in, u64_in, u32_in, u8_in, u16_in, Option.bind_some, Option.bind_none, Option.bind_eq_bind, ↓Bool.cond_eq_ite, decide_eq_true_eq, beq_iff_eq, bne_iff_ne, ne_eq, Bool.not_eq_true', Bool.not_eq_true, Bool.not_eq_false', Bool.not_not, decide_eq_false_iff_not, if_pos, if_neg, reduceIte, not_true_eq_false, not_false_eq_true, Bool.false_eq_true, Bool.true_eq_false, reduceCtorEq]
  · simp (disch := omega) only [i64_in, u64_in, u32_in, u8_in, u16_in, Option.bind_some, Option.bind_none, Option.bind_eq_bind, ↓Bool.cond_eq_ite, decide_eq_true_eq, beq_iff_eq, bne_iff_ne, ne_eq, Bool.not_eq_true', Bool.not_eq_true, Bool.not_eq_false', Bool.not_not, decide_eq_false_iff_not, if_pos, if_neg, reduceIte, not_true_eq_false, not_false_eq_true, Bool.false_eq_true, Bool.true_eq_false, reduceCtorEq]
theorem Step_eq {c : Conf} {l : List Int} {o : Oq} (hf : Fit c l) (hb : U32 c.block.base) (ha : ∀ x, x ∈ o.ask.addrs → U32 x) (hi : 0 ≤ o.item) (hi2 : o.item ≤ 1000000) (hw : U64 o.word) (h0 : 0 ≤ o.leaf) (h1 : o.leaf < leaves (many c.block)) (a0 : 0 ≤ o.at_) (a1 : o.at_ ≤ 1) : hint_Step c l o = some (hstep c l o) := by
  unfold hint_Step hstep
  obtain ⟨w1, w2, w3, w4⟩ := wh_b hf h0 h1
  have hu := hf.u _ (gt_mem w1 w2)
  rw [where_eq hf h0 h1 a0 a1, Option.bind_some]
  have hd := fun w => done_eq (c := c) (o := { o with word := w }) hf.ok.blk hb ha hi hi2
  have hl : l.length ≤ maxList := hf.small
  by_cases k : o.phase = 4
  · simp (disch := omega) only [Load_eq w1 w2, Has_eq hu w3 (show (wh c o).2 ≤ 9223372036854775807 by omega), hd, i64_in, u64_in, u32_in, u8_in, u16_in, Option.bind_some, Option.bind_none, Option.bind_eq_bind, ↓Bool.cond_eq_ite, decide_eq_true_eq, beq_iff_eq, bne_iff_ne, ne_eq, Bool.not_eq_true', Bool.not_eq_true, Bool.not_eq_false', Bool.not_not, decide_eq_false_iff_not, if_pos, if_neg, reduceIte, not_true_eq_false, not_false_eq_true, Bool.false_eq_true, Bool.true_eq_false, reduceCtorEq]
    split <;> rfl
  · cases hfu : o.full
    · have e := hd (cl o.word (wh c o).2)
      rw [hfu] at e
      simp (disch := omega) only [hfu, Clear_eq hw w3 w4, Swap_eq w1 w2 hl, e, i64_in, u64_in, u32_in, u8_in, u16_in, Option.bind_some, Option.bind_none, Option.bind_eq_bind, ↓Bool.cond_eq_ite, decide_eq_true_eq, beq_iff_eq, bne_iff_ne, ne_eq, Bool.not_eq_true', Bool.not_eq_true, Bool.not_eq_false', Bool.not_not, decide_eq_false_iff_not, if_pos, if_neg, reduceIte, not_true_eq_false, not_false_eq_true, Bool.false_eq_true, Bool.true_eq_false, reduceCtorEq]
      split <;> rfl
    · have e := hd (st o.word (wh c o).2)
      rw [hfu] at e
      simp (disch := omega) only [hfu, Clear_eq hw w3 w4, Set_eq hw w3 w4, Swap_eq w1 w2 hl, e, i64_in, u64_in, u32_in, u8_in, u16_in, Option.bind_some, Option.bind_none, Option.bind_eq_bind, ↓Bool.cond_eq_ite, decide_eq_true_eq, beq_iff_eq, bne_iff_ne, ne_eq, Bool.not_eq_true', Bool.not_eq_true, Bool.not_eq_false', Bool.not_not, decide_eq_false_iff_not, if_pos, if_neg, reduceIte, not_true_eq_false, not_false_eq_true, Bool.false_eq_true, Bool.true_eq_false, reduceCtorEq]
      split <;> rfl
end
end Go.Lv.Ld
