import Derived.Test.YtiajkejmabflaaaDoorLaD
import Derived.Test.YtiajkejmabflaaaDoorLaF
namespace Go.Lv.Ld
set_option linter.all false
open Go Go.Lv Go.IntWalk
set_option linter.unusedVariables false
theorem bnd {α β : Type} {o : Option α} {a : α} {f : α → Option β} {r : Option β} (h : o = some a) (h2 : f a = r) : o.bind f = r := by rw [h]; exact h2
theorem ct {α : Type} {c : Bool} {x y r : α} (h : c = true) (h2 : x = r) : (bif c then x else y) = r := by rw [h]; exact h2
theorem cf {α : Type} {c : Bool} {x y r : α} (h : c = false) (h2 : y = r) : (bif c then x else y) = r := by rw [h]; exact h2
/-- The same, but nobody looks into it: else the kernel reckons with words of 64 bits. -/
noncomputable def shut {α : Type} (a : α) : { x : α // x = a } := Classical.choice ⟨⟨a, rfl⟩⟩
/-- A bit of a word. -/
noncomputable def hs (w i : Int) : Bool := (shut fun w i : Int => w.toNat.testBit i.toNat).1 w i
noncomputable def st (w i : Int) : Int := (shut fun w i : Int => ((w.toNat ||| 2 ^ i.toNat : Nat) : Int)).1 w i
noncomputable def cl (w i : Int) : Int := (shut fun w i : Int => ((w.toNat &&& (18446744073709551615 ^^^ 2 ^ i.toNat) : Nat) : Int)).1 w i
def U64 (w : Int) : Prop := 0 ≤ w ∧ w ≤ 18446744073709551615
set_option maxRecDepth 100000 in
theorem pow_pos' (i : Int) : (0 : Int) < 2 ^ i.toNat := Int.pow_pos (by omega)
end Go.Lv.Ld
namespace Go.Lv.Ld
set_option linter.all false
noncomputable section
open Go Go.Lv Go.IntWalk
set_option linter.unusedVariables false
set_option linter.unusedSimpArgs false
theorem shr_u {a i : Int} (ha : U64 a) (hi : 0 ≤ i) : shr .u64 a i = (a.toNat / 2 ^ min i.toNat 64 : Nat) := by
  unfold shr
  show a.fdiv (2 ^ min i.toNat 64) = _
  unfold U64 at ha
  obtain ⟨n, rfl⟩ := Int.eq_ofNat_of_zero_le ha.1
  rw [Int.fdiv_eq_ediv_of_nonneg _ (Int.le_of_lt (Int.pow_pos (by omega)))]
  simp
def I64 (n : Int) : Prop := -9223372036854775808 ≤ n ∧ n ≤ 9223372036854775807
theorem pow_63 {i : Int} (h : i < 63) : (2 : Int) ^ i.toNat ≤ 4611686018427387904 := by
  have : (2 : Nat) ^ i.toNat ≤ 2 ^ 62 := Nat.pow_le_pow_right (by omega) (by omega)
  exact (show (2 : Int) ^ i.toNat = ((2 ^ i.toNat : Nat) : Int) by norm_cast) ▸ (Int.ofNat_le.2 this : ((2 ^ i.toNat : Nat) : Int) ≤ ((2 ^ 62 : Nat) : Int))
theorem big_lt {d : Nat} (h : d ≤ 4000000000000000000) : d < big := by unfold big; omega
end
end Go.Lv.Ld
namespace Go.Lv.Ld
set_option linter.all false
noncomputable section
open Go Go.Lv Go.IntWalk
set_option linter.unusedVariables false
set_option linter.unusedSimpArgs false
def U32 (n : Int) : Prop := 0 ≤ n ∧ n ≤ 4294967295
theorem lit_in {k : IntKind} {n : Int} (h : (Lit.int k n).wf = true) : k.min ≤ n ∧ n ≤ k.max := by
  have h2 : (decide (k.min ≤ n) && decide (n ≤ k.max)) = true := h
  simpa using h2
theorem wf_int {k : IntKind} {n : Int} (h : Wf E (.int k) n) : k.min ≤ n ∧ n ≤ k.max := by
  cases h with
  | int _ _ h => exact lit_in h
/-- A list of numbers, each in range. -/
def WL (P : Int → Prop) (l : List Int) : Prop := l.length ≤ 9223372036854775807 ∧ ∀ x, x ∈ l → P x
theorem maxLen_le : maxLen ≤ 9223372036854775807 := Nat.le_refl _
theorem wf_slice {k : IntKind} {l : List Int} (h : Wf E (.slice (.int k)) l) : WL (fun n => k.min ≤ n ∧ n ≤ k.max) l := by
  cases h with
  | slice _ _ hl h =>
    refine ⟨Nat.le_trans hl maxLen_le, fun x hx => ?_⟩
    obtain ⟨i, hi⟩ := List.getElem?_of_mem hx
    exact wf_int (h i x hi 0 ⟨.int k, x⟩ rfl)
theorem v_int {k : IntKind} {n : Int} (h : WfV E (.int k) n) : k.min ≤ n ∧ n ≤ k.max := wf_int (h 0 ⟨.int k, n⟩ rfl)
structure WBlock (b : Block) : Prop where
  base : U32 b.base
  pre : I64 b.pre
structure WConf (c : Conf) : Prop where
  block : WBlock c.block
  held : WL I64 c.held
  shards : I64 c.shards
  workers : I64 c.workers
  queue : I64 c.queue
  tries : I64 c.tries
structure WAsk (a : Ask) : Prop where
  kind : I64 a.kind
  addr : U32 a.addr
  addrs : WL U32 a.addrs
structure WAns (a : Answer) : Prop where
  err : I64 a.err
  addr : U32 a.addr
  addrs : WL U32 a.addrs
  errs : WL I64 a.errs
structure WCall (c : Call) : Prop where
  client : I64 c.client
  ask : WAsk c.ask
  from_ : I64 c.from_
  to_ : I64 c.to_
  answer : WAns c.answer
theorem v_conf {c : Conf} (h : WfV E (.st 1) c) : WConf c :=
  ⟨⟨wf_int (h 0 ⟨u32, c.block.base⟩ rfl), wf_int (h 1 ⟨i64, c.block.pre⟩ rfl)⟩, wf_slice (h 2 ⟨.slice i64, c.held⟩ rfl), wf_int (h 3 ⟨i64, c.shards⟩ rfl), wf_int (h 4 ⟨i64, c.workers⟩ rfl), wf_int (h 5 ⟨i64, c.queue⟩ rfl), wf_int (h 6 ⟨i64, c.tries⟩ rfl)⟩
theorem wf_call {c : Call} (h : ∀ (j : Nat) (x : Cell S), (toC 5 c)[j]? = some x → Wf E x.t x.x) : WCall c :=
  ⟨wf_int (h 0 ⟨i64, c.client⟩ rfl), ⟨wf_int (h 1 ⟨i64, c.ask.kind⟩ rfl), wf_int (h 2 ⟨u32, c.ask.addr⟩ rfl), wf_slice (h 3 ⟨.slice u32, c.ask.addrs⟩ rfl)⟩, wf_int (h 4 ⟨i64, c.from_⟩ rfl), wf_int (h 5 ⟨i64, c.to_⟩ rfl),
   ⟨wf_int (h 6 ⟨i64, c.answer.err⟩ rfl), wf_int (h 7 ⟨u32, c.answer.addr⟩ rfl), wf_slice (h 9 ⟨.slice u32, c.answer.addrs⟩ rfl), wf_slice (h 10 ⟨.slice i64, c.answer.errs⟩ rfl)⟩⟩
theorem v_calls {l : List Call} (h : WfV E (.slice (.st 5)) l) : l.length ≤ 9223372036854775807 ∧ ∀ x, x ∈ l → WCall x := by
  have h0 := h 0 ⟨.slice (.st 5), l⟩ rfl
  cases h0 with
  | slice _ _ hl h =>
    refine ⟨Nat.le_trans hl maxLen_le, fun x hx => ?_⟩
    obtain ⟨i, hi⟩ := List.getElem?_of_mem hx
    exact wf_call (h i x hi)
theorem args4 {a b c d : Ty} {cs : List (Cell S)} (h : ArgsOK E [a, b, c, d] cs) : ∃ x y z u, cs = [⟨a, x⟩, ⟨b, y⟩, ⟨c, z⟩, ⟨d, u⟩] ∧ WfV E a x ∧ WfV E b y ∧ WfV E c z ∧ WfV E d u := by
  obtain ⟨h1, h2⟩ := h
  obtain ⟨x, r1, rfl, q1⟩ := cut h1
  obtain ⟨y, r2, rfl, q2⟩ := cut q1
  obtain ⟨z, r3, rfl, q3⟩ := cut q2
  obtain ⟨u, r4, rfl, q4⟩ := cut q3
  obtain rfl := cutN q4
  exact ⟨x, y, z, u, rfl, h2 ⟨a, x⟩ (by simp), h2 ⟨b, y⟩ (by simp), h2 ⟨c, z⟩ (by simp), h2 ⟨d, u⟩ (by simp)⟩
theorem as_self {t : Ty} (x : den S t) : Cell.as (⟨t, x⟩ : Cell S) t = some x := by simp [Cell.as]
theorem run4_eq {R : Type} {a b c d : Ty} (F : den S a → den S b → den S c → den S d → Option R) (x0 : den S a) (x1 : den S b) (x2 : den S c) (x3 : den S d) : run4 a b c d F [⟨a, x0⟩, ⟨b, x1⟩, ⟨c, x2⟩, ⟨d, x3⟩] = F x0 x1 x2 x3 := by simp [run4, as_self]
end
end Go.Lv.Ld
namespace Go.Lv.Ld
set_option linter.all false
noncomputable section
open Go Go.Lv Go.IntWalk
/-- What stands at a place. -/
def gt (l : List Int) (i : Int) : Int := l.getD i.toNat 0
theorem geti_eq {l : List Int} {i : Int} (h0 : 0 ≤ i) (h : i < (l.length : Int)) : geti l i = some (gt l i) := by
  unfold geti gt
  rw [if_pos h0, List.getElem?_eq_getElem (show i.toNat < l.length by omega), List.getD_eq_getElem?_getD, List.getElem?_eq_getElem (show i.toNat < l.length by omega)]; rfl
theorem get?_gt {l : List Int} {i : Int} (h0 : 0 ≤ i) (h : i < (l.length : Int)) : l[i.toNat]? = some (gt l i) := by
  have := geti_eq h0 h
  unfold geti at this
  rwa [if_pos h0] at this
theorem gt_mem {l : List Int} {i : Int} (h0 : 0 ≤ i) (h : i < (l.length : Int)) : gt l i ∈ l := List.mem_of_getElem? (get?_gt h0 h)
theorem list_ext {a b : List Int} (hl : a.length = b.length) (h : ∀ i : Int, 0 ≤ i → i < (a.length : Int) → gt a i = gt b i) : a = b := by
  apply List.ext_getElem? 
  intro i
  by_cases hi : i < a.length
  · have := h i (by omega) (by omega)
    have e1 := get?_gt (l := a) (i := i) (by omega) (by omega)
    have e2 := get?_gt (l := b) (i := i) (by omega) (by omega)
    simp only [Int.toNat_natCast] at e1 e2
    rw [e1, e2, this]
  · rw [List.getElem?_eq_none (by omega), List.getElem?_eq_none (by omega)]
/-- Configurations. -/
def many (b : Block) : Int := 2 ^ (32 - b.pre).toNat
def leaves (n : Int) : Int := (n + 31) / 32
def tops (n : Int) : Int := (leaves n + 63) / 64
def cellsN (n : Int) : Int := leaves n + tops n + 1
structure OKb (b : Block) : Prop where
  pre1 : 16 ≤ b.pre
  pre2 : b.pre ≤ 32
theorem many_b {b : Block} (h : OKb b) : 1 ≤ many b ∧ many b ≤ 65536 := by
  obtain ⟨h1, h2⟩ := h
  unfold many
  have : (2 : Nat) ^ (32 - b.pre).toNat ≤ 2 ^ 16 := Nat.pow_le_pow_right (by omega) (by omega)
  have h3 : (2 : Nat) ^ (32 - b.pre).toNat ≥ 1 := Nat.one_le_two_pow
  have e : (2 : Int) ^ (32 - b.pre).toNat = ((2 ^ (32 - b.pre).toNat : Nat) : Int) := by norm_cast
  omega
theorem shl_i {i : Int} (hi : 0 ≤ i) (h : i ≤ 32) : shl .i64 1 i = 2 ^ i.toNat := by
  unfold shl
  show IntKind.i64.wrap (1 * 2 ^ min i.toNat 64) = _
  rw [Nat.min_eq_left (by omega), Int.one_mul]
  have := @pow_63 i (by omega)
  have := pow_pos' i
  exact i64_in _ (by omega)
theorem Many_eq {b : Block} (h : OKb b) : block_Many b = some (many b) := by
  obtain ⟨h1, h2⟩ := h
  unfold block_Many many
  simp (disch := omega) only [i64_in, u64_in, u32_in, u8_in, u16_in, Option.bind_some, Option.bind_none, Option.bind_eq_bind, ↓Bool.cond_eq_ite, decide_eq_true_eq, beq_iff_eq, bne_iff_ne, ne_eq, Bool.not_eq_true', Bool.not_eq_true, Bool.not_eq_false', Bool.not_not, decide_eq_false_iff_not, if_pos, if_neg, reduceIte, not_true_eq_false, not_false_eq_true, Bool.false_eq_true, Bool.true_eq_false, reduceCtorEq]
  rw [shl_i (by omega) (by omega)]
theorem rMany_l : ∀ (d n : Nat) (p x : Int), d < n → (32 - p).toNat = d → p ≤ 32 → 16 ≤ p → 0 ≤ x → x ≤ 2 ^ (p - 16).toNat → lodgerref04_Many_l0 n x p = some (x * 2 ^ (32 - p).toNat) := by
  intro d
  induction d with
  | zero =>
    intro n p x hn h1 h2 h3 hx hx2
    obtain ⟨m, rfl⟩ : ∃ m, n = m + 1 := ⟨n - 1, by omega⟩
    rw [su0_lodgerref04_Many]
    unfold lodgerref04_Many_s0
    have : p = 32 := by omega
    subst this
    simp (disch := omega) only [i64_in, u64_in, u32_in, u8_in, u16_in, Option.bind_some, Option.bind_none, Option.bind_eq_bind, ↓Bool.cond_eq_ite, decide_eq_true_eq, beq_iff_eq, bne_iff_ne, ne_eq, Bool.not_eq_true', Bool.not_eq_true, Bool.not_eq_false', Bool.not_not, decide_eq_false_iff_not, if_pos, if_neg, reduceIte, not_true_eq_false, not_false_eq_true, Bool.false_eq_true, Bool.true_eq_false, reduceCtorEq]
    simp
  | succ d ih =>
    intro n p x hn h1 h2 h3 hx hx2
    obtain ⟨m, rfl⟩ : ∃ m, n = m + 1 := ⟨n - 1, by omega⟩
    rw [su0_lodgerref04_Many]
    unfold lodgerref04_Many_s0
    have hb : (2 : Int) ^ (p - 16).toNat ≤ 65536 := by
      have : (2 : Nat) ^ (p - 16).toNat ≤ 2 ^ 16 := Nat.pow_le_pow_right (by omega) (by omega)
      exact (show (2 : Int) ^ (p - 16).toNat = ((2 ^ (p - 16).toNat : Nat) : Int) by norm_cast) ▸ (Int.ofNat_le.2 this)
    have hb1 : x ≤ 65536 := Int.le_trans hx2 hb
    have e : (2 : Int) ^ (p - 16).toNat * 2 = 2 ^ (p + 1 - 16).toNat := by rw [show (p + 1 - 16).toNat = (p - 16).toNat + 1 by omega, Int.pow_succ]
    have hx3 : 2 * x ≤ 2 ^ (p + 1 - 16).toNat := by rw [← e]; omega
    simp (disch := omega) only [i64_in, u64_in, u32_in, u8_in, u16_in, Option.bind_some, Option.bind_none, Option.bind_eq_bind, ↓Bool.cond_eq_ite, decide_eq_true_eq, beq_iff_eq, bne_iff_ne, ne_eq, Bool.not_eq_true', Bool.not_eq_true, Bool.not_eq_false', Bool.not_not, decide_eq_false_iff_not, if_pos, if_neg, reduceIte, not_true_eq_false, not_false_eq_true, Bool.false_eq_true, Bool.true_eq_false, reduceCtorEq]
    rw [ih m (p + 1) (2 * x) (by omega) (by omega) (by omega) (by omega) (by omega) hx3]
    rw [show (32 - p).toNat = (32 - (p + 1)).toNat + 1 by omega, Int.pow_succ]
    congr 1
    rw [Int.mul_comm 2 x, Int.mul_assoc, Int.mul_comm 2]
theorem rMany4_eq {p : Int} (h1 : 16 ≤ p) (h2 : p ≤ 32) : lodgerref04_Many p = some (2 ^ (32 - p).toNat) := by
  have := rMany_l (32 - p).toNat big p 1 (big_lt (by omega)) rfl h2 h1 (by omega) (by have := pow_pos' (p - 16); omega)
  rwa [Int.one_mul] at this
theorem rMany_eq {b : Block} (h : OKb b) : lodgerref05_Many b = some (many b) := by
  unfold lodgerref05_Many
  rw [rMany4_eq h.pre1 h.pre2]; rfl
def Divs (b : Block) : Prop := b.base % many b = 0
/-- What a configuration that may be is. -/
structure OKc (c : Conf) : Prop where
  blk : OKb c.block
  base : Divs c.block
  few : c.held.length ≤ 64
  held : ∀ i : Int, 0 ≤ i → i < (c.held.length : Int) → 0 ≤ gt c.held i ∧ gt c.held i < many c.block ∧ (0 < i → gt c.held (i - 1) < gt c.held i)
  sh : 1 ≤ c.shards ∧ c.shards ≤ 64
  wo : 1 ≤ c.workers ∧ c.workers ≤ 64
  qu : 1 ≤ c.queue ∧ c.queue ≤ 64
  tr : 1 ≤ c.tries ∧ c.tries ≤ 8
theorem rMay_l (c : Conf) (hb : OKb c.block) (hh : c.held.length ≤ 64) : ∀ (d n : Nat) (i : Int), d < n → 0 ≤ i → ((c.held.length : Int) - i).toNat = d → i ≤ c.held.length →
    ∃ b, lodgerref05_May_l0 n i c = some b ∧ (b = true → ∀ j : Int, i ≤ j → j < (c.held.length : Int) → 0 ≤ gt c.held j ∧ gt c.held j < many c.block ∧ (0 < j → gt c.held (j - 1) < gt c.held j)) := by
  intro d
  induction d with
  | zero =>
    intro n i hn h1 h2 h3
    obtain ⟨m, rfl⟩ : ∃ m, n = m + 1 := ⟨n - 1, by omega⟩
    rw [su0_lodgerref05_May]
    unfold lodgerref05_May_s0
    simp (disch := omega) only [i64_in, u64_in, u32_in, u8_in, u16_in, Option.bind_some, Option.bind_none, Option.bind_eq_bind, ↓Bool.cond_eq_ite, decide_eq_true_eq, beq_iff_eq, bne_iff_ne, ne_eq, Bool.not_eq_true', Bool.not_eq_true, Bool.not_eq_false', Bool.not_not, decide_eq_false_iff_not, if_pos, if_neg, reduceIte, not_true_eq_false, not_false_eq_true, Bool.false_eq_true, Bool.true_eq_false, reduceCtorEq]
    exact ⟨true, rfl, fun _ j q1 q2 => by omega⟩
  | succ d ih =>
    intro n i hn h1 h2 h3
    obtain ⟨m, rfl⟩ : ∃ m, n = m + 1 := ⟨n - 1, by omega⟩
    rw [su0_lodgerref05_May]
    unfold lodgerref05_May_s0
    simp (disch := omega) only [geti_eq h1 (show i < (c.held.length : Int) by omega), rMany_eq hb, i64_in, u64_in, u32_in, u8_in, u16_in, Option.bind_some, Option.bind_none, Option.bind_eq_bind, ↓Bool.cond_eq_ite, decide_eq_true_eq, beq_iff_eq, bne_iff_ne, ne_eq, Bool.not_eq_true', Bool.not_eq_true, Bool.not_eq_false', Bool.not_not, decide_eq_false_iff_not, if_pos, if_neg, reduceIte, not_true_eq_false, not_false_eq_true, Bool.false_eq_true, Bool.true_eq_false, reduceCtorEq]
    obtain ⟨b, e, hi⟩ := ih m (i + 1) (by omega) (by omega) (by omega) (by omega)
    by_cases c1 : gt c.held i < 0
    · simp (disch := omega) only [i64_in, u64_in, u32_in, u8_in, u16_in, Option.bind_some, Option.bind_none, Option.bind_eq_bind, ↓Bool.cond_eq_ite, decide_eq_true_eq, beq_iff_eq, bne_iff_ne, ne_eq, Bool.not_eq_true', Bool.not_eq_true, Bool.not_eq_false', Bool.not_not, decide_eq_false_iff_not, if_pos, if_neg, reduceIte, not_true_eq_false, not_false_eq_true, Bool.false_eq_true, Bool.true_eq_false, reduceCtorEq]; exact ⟨false, rfl, fun h => by cases h⟩
    by_cases c2 : gt c.held i ≥ many c.block
    · simp (disch := omega) only [i64_in, u64_in, u32_in, u8_in, u16_in, Option.bind_some, Option.bind_none, Option.bind_eq_bind, ↓Bool.cond_eq_ite, decide_eq_true_eq, beq_iff_eq, bne_iff_ne, ne_eq, Bool.not_eq_true', Bool.not_eq_true, Bool.not_eq_false', Bool.not_not, decide_eq_false_iff_not, if_pos, if_neg, reduceIte, not_true_eq_false, not_false_eq_true, Bool.false_eq_true, Bool.true_eq_false, reduceCtorEq]; exact ⟨false, rfl, fun h => by cases h⟩
    by_cases c3 : 0 < i
    · simp (disch := omega) only [geti_eq (show 0 ≤ i - 1 by omega) (show i - 1 < (c.held.length : Int) by omega), i64_in, u64_in, u32_in, u8_in, u16_in, Option.bind_some, Option.bind_none, Option.bind_eq_bind, ↓Bool.cond_eq_ite, decide_eq_true_eq, beq_iff_eq, bne_iff_ne, ne_eq, Bool.not_eq_true', Bool.not_eq_true, Bool.not_eq_false', Bool.not_not, decide_eq_false_iff_not, if_pos, if_neg, reduceIte, not_true_eq_false, not_false_eq_true, Bool.false_eq_true, Bool.true_eq_false, reduceCtorEq]
      by_cases c4 : gt c.held i ≤ gt c.held (i - 1)
      · simp (disch := omega) only [i64_in, u64_in, u32_in, u8_in, u16_in, Option.bind_some, Option.bind_none, Option.bind_eq_bind, ↓Bool.cond_eq_ite, decide_eq_true_eq, beq_iff_eq, bne_iff_ne, ne_eq, Bool.not_eq_true', Bool.not_eq_true, Bool.not_eq_false', Bool.not_not, decide_eq_false_iff_not, if_pos, if_neg, reduceIte, not_true_eq_false, not_false_eq_true, Bool.false_eq_true, Bool.true_eq_false, reduceCtorEq]; exact ⟨false, rfl, fun h => by cases h⟩
      · simp (disch := omega) only [i64_in, u64_in, u32_in, u8_in, u16_in, Option.bind_some, Option.bind_none, Option.bind_eq_bind, ↓Bool.cond_eq_ite, decide_eq_true_eq, beq_iff_eq, bne_iff_ne, ne_eq, Bool.not_eq_true', Bool.not_eq_true, Bool.not_eq_false', Bool.not_not, decide_eq_false_iff_not, if_pos, if_neg, reduceIte, not_true_eq_false, not_false_eq_true, Bool.false_eq_true, Bool.true_eq_false, reduceCtorEq]
        refine ⟨b, e, fun hb j q1 q2 => ?_⟩
        by_cases ej : j = i
        · subst ej; exact ⟨by omega, by omega, fun _ => by omega⟩
        · exact hi hb j (by omega) q2
    · simp (disch := omega) only [i64_in, u64_in, u32_in, u8_in, u16_in, Option.bind_some, Option.bind_none, Option.bind_eq_bind, ↓Bool.cond_eq_ite, decide_eq_true_eq, beq_iff_eq, bne_iff_ne, ne_eq, Bool.not_eq_true', Bool.not_eq_true, Bool.not_eq_false', Bool.not_not, decide_eq_false_iff_not, if_pos, if_neg, reduceIte, not_true_eq_false, not_false_eq_true, Bool.false_eq_true, Bool.true_eq_false, reduceCtorEq]
      refine ⟨b, e, fun hb j q1 q2 => ?_⟩
      by_cases ej : j = i
      · subst ej; exact ⟨by omega, by omega, fun _ => by omega⟩
      · exact hi hb j (by omega) q2
theorem rMay4_eq {b : Block} (hb : WBlock b) : ∃ r, lodgerref04_May b = some r ∧ (r = true → OKb b ∧ Divs b) := by
  obtain ⟨⟨b1, b2⟩, h1, h2⟩ := hb
  unfold lodgerref04_May
  by_cases c1 : b.pre ≥ 16
  · by_cases c2 : b.pre ≤ 32
    · have hm := many_b ⟨c1, c2⟩
      have e := rMany4_eq c1 c2
      rw [show (2 : Int) ^ (32 - b.pre).toNat = many b from rfl] at e
      simp (disch := omega) only [e, Int.tmod_eq_emod_of_nonneg b1, i64_in, u64_in, u32_in, u8_in, u16_in, Option.bind_some, Option.bind_none, Option.bind_eq_bind, ↓Bool.cond_eq_ite, decide_eq_true_eq, beq_iff_eq, bne_iff_ne, ne_eq, Bool.not_eq_true', Bool.not_eq_true, Bool.not_eq_false', Bool.not_not, decide_eq_false_iff_not, if_pos, if_neg, reduceIte, not_true_eq_false, not_false_eq_true, Bool.false_eq_true, Bool.true_eq_false, reduceCtorEq]
      exact ⟨_, rfl, fun h => ⟨⟨c1, c2⟩, by unfold Divs; simpa using h⟩⟩
    · simp (disch := omega) only [i64_in, u64_in, u32_in, u8_in, u16_in, Option.bind_some, Option.bind_none, Option.bind_eq_bind, ↓Bool.cond_eq_ite, decide_eq_true_eq, beq_iff_eq, bne_iff_ne, ne_eq, Bool.not_eq_true', Bool.not_eq_true, Bool.not_eq_false', Bool.not_not, decide_eq_false_iff_not, if_pos, if_neg, reduceIte, not_true_eq_false, not_false_eq_true, Bool.false_eq_true, Bool.true_eq_false, reduceCtorEq]; exact ⟨false, rfl, fun h => by cases h⟩
  · simp (disch := omega) only [i64_in, u64_in, u32_in, u8_in, u16_in, Option.bind_some, Option.bind_none, Option.bind_eq_bind, ↓Bool.cond_eq_ite, decide_eq_true_eq, beq_iff_eq, bne_iff_ne, ne_eq, Bool.not_eq_true', Bool.not_eq_true, Bool.not_eq_false', Bool.not_not, decide_eq_false_iff_not, if_pos, if_neg, reduceIte, not_true_eq_false, not_false_eq_true, Bool.false_eq_true, Bool.true_eq_false, reduceCtorEq]; exact ⟨false, rfl, fun h => by cases h⟩
theorem rMay_eq {c : Conf} (hc : WConf c) : ∃ b, lodgerref05_May c = some b ∧ (b = true → OKc c) := by
  unfold lodgerref05_May lodgerref05_May_n lodgerref05_May_e
  obtain ⟨r, e, hr⟩ := rMay4_eq hc.block
  rw [e]
  cases r
  · exact ⟨false, rfl, fun h => by cases h⟩
  simp only [Option.bind_some, Option.bind_none, Option.bind_eq_bind, ↓Bool.cond_eq_ite, decide_eq_true_eq, beq_iff_eq, bne_iff_ne, ne_eq, Bool.not_eq_true', Bool.not_eq_true, Bool.not_eq_false', Bool.not_not, decide_eq_false_iff_not, reduceIte, not_true_eq_false, not_false_eq_true, Bool.false_eq_true, Bool.true_eq_false, reduceCtorEq]
  obtain ⟨hb, hb2⟩ := hr rfl
  split
  · exact ⟨false, rfl, fun h => by cases h⟩
  split
  · exact ⟨false, rfl, fun h => by cases h⟩
  split
  · exact ⟨false, rfl, fun h => by cases h⟩
  split
  · exact ⟨false, rfl, fun h => by cases h⟩
  split
  · exact ⟨false, rfl, fun h => by cases h⟩
  split
  · exact ⟨false, rfl, fun h => by cases h⟩
  split
  · exact ⟨false, rfl, fun h => by cases h⟩
  split
  · exact ⟨false, rfl, fun h => by cases h⟩
  split
  · exact ⟨false, rfl, fun h => by cases h⟩
  obtain ⟨b, e, hi⟩ := rMay_l c hb (by omega) c.held.length big 0 (big_lt (by omega)) (by omega) (by omega) (by omega)
  exact ⟨b, e, fun h => ⟨hb, hb2, by omega, fun i q1 q2 => hi h i q1 q2, by omega, by omega, by omega, by omega⟩⟩
end
end Go.Lv.Ld
namespace Go.Lv.Ld
set_option linter.all false
noncomputable section
open Go Go.Lv Go.IntWalk
theorem lodgerref08_Addrs_l (a b : List Int) (hl : a.length = b.length) : ∀ (d n : Nat) (i : Int), d < n → 0 ≤ i → ((a.length : Int) - i).toNat = d → i ≤ a.length → a.length ≤ 4000000000000000000 →
    (∀ j : Int, 0 ≤ j → j < i → gt a j = gt b j) → lodgerref08_Addrs_l0 n a b i = some (decide (a = b)) := by
  intro d
  induction d with
  | zero =>
    intro n i hn h1 h2 h3 h4 h5
    obtain ⟨m, rfl⟩ : ∃ m, n = m + 1 := ⟨n - 1, by omega⟩
    rw [su0_lodgerref08_Addrs]
    unfold lodgerref08_Addrs_s0
    have : a = b := list_ext hl fun i q1 q2 => h5 i q1 (by omega)
    clear h5
    simp (disch := omega) only [i64_in, u64_in, u32_in, u8_in, u16_in, Option.bind_some, Option.bind_none, Option.bind_eq_bind, ↓Bool.cond_eq_ite, decide_eq_true_eq, beq_iff_eq, bne_iff_ne, ne_eq, Bool.not_eq_true', Bool.not_eq_true, Bool.not_eq_false', Bool.not_not, decide_eq_false_iff_not, if_pos, if_neg, reduceIte, not_true_eq_false, not_false_eq_true, Bool.false_eq_true, Bool.true_eq_false, reduceCtorEq]
    rw [decide_eq_true this]
  | succ d ih =>
    intro n i hn h1 h2 h3 h4 h5
    obtain ⟨m, rfl⟩ : ∃ m, n = m + 1 := ⟨n - 1, by omega⟩
    rw [su0_lodgerref08_Addrs]
    unfold lodgerref08_Addrs_s0
    have hx := ih m (i + 1) (by omega) (by omega) (by omega) (by omega) h4
    by_cases c : gt a i = gt b i
    · have hy := hx fun j q1 q2 => by
        by_cases e : j = i
        · rw [e, c]
        · exact h5 j q1 (by omega)
      clear h5 hx ih
      simp (disch := omega) only [geti_eq h1 (show i < (a.length : Int) by omega), geti_eq h1 (show i < (b.length : Int) by omega), c, i64_in, u64_in, u32_in, u8_in, u16_in, Option.bind_some, Option.bind_none, Option.bind_eq_bind, ↓Bool.cond_eq_ite, decide_eq_true_eq, beq_iff_eq, bne_iff_ne, ne_eq, Bool.not_eq_true', Bool.not_eq_true, Bool.not_eq_false', Bool.not_not, decide_eq_false_iff_not, if_pos, if_neg, reduceIte, not_true_eq_false, not_false_eq_true, Bool.false_eq_true, Bool.true_eq_false, reduceCtorEq]
      exact hy
    · have : a ≠ b := fun e => c (by rw [e])
      clear h5 hx ih
      simp (disch := omega) only [geti_eq h1 (show i < (a.length : Int) by omega), geti_eq h1 (show i < (b.length : Int) by omega), c, i64_in, u64_in, u32_in, u8_in, u16_in, Option.bind_some, Option.bind_none, Option.bind_eq_bind, ↓Bool.cond_eq_ite, decide_eq_true_eq, beq_iff_eq, bne_iff_ne, ne_eq, Bool.not_eq_true', Bool.not_eq_true, Bool.not_eq_false', Bool.not_not, decide_eq_false_iff_not, if_pos, if_neg, reduceIte, not_true_eq_false, not_false_eq_true, Bool.false_eq_true, Bool.true_eq_false, reduceCtorEq]
      rw [decide_eq_false this]
theorem lodgerref08_Addrs_eq (a b : List Int) (h : a.length ≤ 4000000000000000000) : lodgerref08_Addrs a b = some (decide (a = b)) := by
  unfold lodgerref08_Addrs lodgerref08_Addrs_n lodgerref08_Addrs_e
  by_cases c : (a.length : Int) = b.length
  · simp (disch := omega) only [c, i64_in, u64_in, u32_in, u8_in, u16_in, Option.bind_some, Option.bind_none, Option.bind_eq_bind, ↓Bool.cond_eq_ite, decide_eq_true_eq, beq_iff_eq, bne_iff_ne, ne_eq, Bool.not_eq_true', Bool.not_eq_true, Bool.not_eq_false', Bool.not_not, decide_eq_false_iff_not, if_pos, if_neg, reduceIte, not_true_eq_false, not_false_eq_true, Bool.false_eq_true, Bool.true_eq_false, reduceCtorEq]
    exact lodgerref08_Addrs_l a b (by omega) a.length big 0 (big_lt (by omega)) (by omega) (by omega) (by omega) h fun j q1 q2 => by omega
  · simp (disch := omega) only [c, i64_in, u64_in, u32_in, u8_in, u16_in, Option.bind_some, Option.bind_none, Option.bind_eq_bind, ↓Bool.cond_eq_ite, decide_eq_true_eq, beq_iff_eq, bne_iff_ne, ne_eq, Bool.not_eq_true', Bool.not_eq_true, Bool.not_eq_false', Bool.not_not, decide_eq_false_iff_not, if_pos, if_neg, reduceIte, not_true_eq_false, not_false_eq_true, Bool.false_eq_true, Bool.true_eq_false, reduceCtorEq]
    rw [decide_eq_false]
    intro e; exact c (by rw [e])
theorem lodgerref08_Errs_l (a b : List Int) (hl : a.length = b.length) : ∀ (d n : Nat) (i : Int), d < n → 0 ≤ i → ((a.length : Int) - i).toNat = d → i ≤ a.length → a.length ≤ 4000000000000000000 →
    (∀ j : Int, 0 ≤ j → j < i → gt a j = gt b j) → lodgerref08_Errs_l0 n a b i = some (decide (a = b)) := by
  intro d
  induction d with
  | zero =>
    intro n i hn h1 h2 h3 h4 h5
    obtain ⟨m, rfl⟩ : ∃ m, n = m + 1 := ⟨n - 1, by omega⟩
    rw [su0_lodgerref08_Errs]
    unfold lodgerref08_Errs_s0
    have : a = b := list_ext hl fun i q1 q2 => h5 i q1 (by omega)
    clear h5
    simp (disch := omega) only [i64_in, u64_in, u32_in, u8_in, u16_in, Option.bind_some, Option.bind_none, Option.bind_eq_bind, ↓Bool.cond_eq_ite, decide_eq_true_eq, beq_iff_eq, bne_iff_ne, ne_eq, Bool.not_eq_true', Bool.not_eq_true, Bool.not_eq_false', Bool.not_not, decide_eq_false_iff_not, if_pos, if_neg, reduceIte, not_true_eq_false, not_false_eq_true, Bool.false_eq_true, Bool.true_eq_false, reduceCtorEq]
    rw [decide_eq_true this]
  | succ d ih =>
    intro n i hn h1 h2 h3 h4 h5
    obtain ⟨m, rfl⟩ : ∃ m, n = m + 1 := ⟨n - 1, by omega⟩
    rw [su0_lodgerref08_Errs]
    unfold lodgerref08_Errs_s0
    have hx := ih m (i + 1) (by omega) (by omega) (by omega) (by omega) h4
    by_cases c : gt a i = gt b i
    · have hy := hx fun j q1 q2 => by
        by_cases e : j = i
        · rw [e, c]
        · exact h5 j q1 (by omega)
      clear h5 hx ih
      simp (disch := omega) only [geti_eq h1 (show i < (a.length : Int) by omega), geti_eq h1 (show i < (b.length : Int) by omega), c, i64_in, u64_in, u32_in, u8_in, u16_in, Option.bind_some, Option.bind_none, Option.bind_eq_bind, ↓Bool.cond_eq_ite, decide_eq_true_eq, beq_iff_eq, bne_iff_ne, ne_eq, Bool.not_eq_true', Bool.not_eq_true, Bool.not_eq_false', Bool.not_not, decide_eq_false_iff_not, if_pos, if_neg, reduceIte, not_true_eq_false, not_false_eq_true, Bool.false_eq_true, Bool.true_eq_false, reduceCtorEq]
      exact hy
    · have : a ≠ b := fun e => c (by rw [e])
      clear h5 hx ih
      simp (disch := omega) only [geti_eq h1 (show i < (a.length : Int) by omega), geti_eq h1 (show i < (b.length : Int) by omega), c, i64_in, u64_in, u32_in, u8_in, u16_in, Option.bind_some, Option.bind_none, Option.bind_eq_bind, ↓Bool.cond_eq_ite, decide_eq_true_eq, beq_iff_eq, bne_iff_ne, ne_eq, Bool.not_eq_true', Bool.not_eq_true, Bool.not_eq_false', Bool.not_not, decide_eq_false_iff_not, if_pos, if_neg, reduceIte, not_true_eq_false, not_false_eq_true, Bool.false_eq_true, Bool.true_eq_false, reduceCtorEq]
      rw [decide_eq_false this]
theorem lodgerref08_Errs_eq (a b : List Int) (h : a.length ≤ 4000000000000000000) : lodgerref08_Errs a b = some (decide (a = b)) := by
  unfold lodgerref08_Errs lodgerref08_Errs_n lodgerref08_Errs_e
  by_cases c : (a.length : Int) = b.length
  · simp (disch := omega) only [c, i64_in, u64_in, u32_in, u8_in, u16_in, Option.bind_some, Option.bind_none, Option.bind_eq_bind, ↓Bool.cond_eq_ite, decide_eq_true_eq, beq_iff_eq, bne_iff_ne, ne_eq, Bool.not_eq_true', Bool.not_eq_true, Bool.not_eq_false', Bool.not_not, decide_eq_false_iff_not, if_pos, if_neg, reduceIte, not_true_eq_false, not_false_eq_true, Bool.false_eq_true, Bool.true_eq_false, reduceCtorEq]
    exact lodgerref08_Errs_l a b (by omega) a.length big 0 (big_lt (by omega)) (by omega) (by omega) (by omega) h fun j q1 q2 => by omega
  · simp (disch := omega) only [c, i64_in, u64_in, u32_in, u8_in, u16_in, Option.bind_some, Option.bind_none, Option.bind_eq_bind, ↓Bool.cond_eq_ite, decide_eq_true_eq, beq_iff_eq, bne_iff_ne, ne_eq, Bool.not_eq_true', Bool.not_eq_true, Bool.not_eq_false', Bool.not_not, decide_eq_false_iff_not, if_pos, if_neg, reduceIte, not_true_eq_false, not_false_eq_true, Bool.false_eq_true, Bool.true_eq_false, reduceCtorEq]
    rw [decide_eq_false]
    intro e; exact c (by rw [e])
end
end Go.Lv.Ld
namespace Go.Lv.Ld
set_option linter.all false
noncomputable section
open Go Go.Lv Go.IntWalk
def ins (b : Block) (a : Int) : Prop := b.base ≤ a ∧ a < b.base + many b
instance (b : Block) (a : Int) : Decidable (ins b a) := by unfold ins; infer_instance
def off (b : Block) (a : Int) : Int := if ins b a then a - b.base else 0
theorem Offset_eq {b : Block} {a : Int} (h : OKb b) (hb : U32 b.base) (ha : U32 a) : block_Offset b a = some (if ins b a then (a - b.base, 0) else (0, 3)) := by
  unfold block_Offset
  have := many_b h
  unfold U32 at *
  rw [Many_eq h]
  by_cases c : b.base ≤ a
  · by_cases d : a < b.base + many b
    · simp (disch := omega) only [i64_in, u64_in, u32_in, u8_in, u16_in, Option.bind_some, Option.bind_none, Option.bind_eq_bind, ↓Bool.cond_eq_ite, decide_eq_true_eq, beq_iff_eq, bne_iff_ne, ne_eq, Bool.not_eq_true', Bool.not_eq_true, Bool.not_eq_false', Bool.not_not, decide_eq_false_iff_not, if_pos, if_neg, reduceIte, not_true_eq_false, not_false_eq_true, Bool.false_eq_true, Bool.true_eq_false, reduceCtorEq]
      rw [if_pos ⟨c, d⟩]
    · simp (disch := omega) only [i64_in, u64_in, u32_in, u8_in, u16_in, Option.bind_some, Option.bind_none, Option.bind_eq_bind, ↓Bool.cond_eq_ite, decide_eq_true_eq, beq_iff_eq, bne_iff_ne, ne_eq, Bool.not_eq_true', Bool.not_eq_true, Bool.not_eq_false', Bool.not_not, decide_eq_false_iff_not, if_pos, if_neg, reduceIte, not_true_eq_false, not_false_eq_true, Bool.false_eq_true, Bool.true_eq_false, reduceCtorEq]
      rw [if_neg (fun q : ins b a => d q.2)]
  · simp (disch := omega) only [i64_in, u64_in, u32_in, u8_in, u16_in, Option.bind_some, Option.bind_none, Option.bind_eq_bind, ↓Bool.cond_eq_ite, decide_eq_true_eq, beq_iff_eq, bne_iff_ne, ne_eq, Bool.not_eq_true', Bool.not_eq_true, Bool.not_eq_false', Bool.not_not, decide_eq_false_iff_not, if_pos, if_neg, reduceIte, not_true_eq_false, not_false_eq_true, Bool.false_eq_true, Bool.true_eq_false, reduceCtorEq]
    rw [if_neg (fun q : ins b a => c q.1)]
theorem rOffset_eq {b : Block} {a : Int} (h : OKb b) (hb : U32 b.base) (ha : U32 a) : lodgerref05_Offset b a = some (if ins b a then (a - b.base, 0) else (0, 3)) := by
  unfold lodgerref05_Offset
  have := many_b h
  unfold U32 at *
  rw [rMany_eq h]
  by_cases c : b.base ≤ a
  · by_cases d : a < b.base + many b
    · simp (disch := omega) only [i64_in, u64_in, u32_in, u8_in, u16_in, Option.bind_some, Option.bind_none, Option.bind_eq_bind, ↓Bool.cond_eq_ite, decide_eq_true_eq, beq_iff_eq, bne_iff_ne, ne_eq, Bool.not_eq_true', Bool.not_eq_true, Bool.not_eq_false', Bool.not_not, decide_eq_false_iff_not, if_pos, if_neg, reduceIte, not_true_eq_false, not_false_eq_true, Bool.false_eq_true, Bool.true_eq_false, reduceCtorEq]
      rw [if_pos ⟨c, d⟩]
    · simp (disch := omega) only [i64_in, u64_in, u32_in, u8_in, u16_in, Option.bind_some, Option.bind_none, Option.bind_eq_bind, ↓Bool.cond_eq_ite, decide_eq_true_eq, beq_iff_eq, bne_iff_ne, ne_eq, Bool.not_eq_true', Bool.not_eq_true, Bool.not_eq_false', Bool.not_not, decide_eq_false_iff_not, if_pos, if_neg, reduceIte, not_true_eq_false, not_false_eq_true, Bool.false_eq_true, Bool.true_eq_false, reduceCtorEq]
      rw [if_neg (fun q : ins b a => d q.2)]
  · simp (disch := omega) only [i64_in, u64_in, u32_in, u8_in, u16_in, Option.bind_some, Option.bind_none, Option.bind_eq_bind, ↓Bool.cond_eq_ite, decide_eq_true_eq, beq_iff_eq, bne_iff_ne, ne_eq, Bool.not_eq_true', Bool.not_eq_true, Bool.not_eq_false', Bool.not_not, decide_eq_false_iff_not, if_pos, if_neg, reduceIte, not_true_eq_false, not_false_eq_true, Bool.false_eq_true, Bool.true_eq_false, reduceCtorEq]
    rw [if_neg (fun q : ins b a => c q.1)]
theorem off_1 (b : Block) (a : Int) : (if ins b a then (a - b.base, (0 : Int)) else (0, 3)).1 = off b a := by unfold off; split <;> rfl
/-- Cells that fit a configuration. -/
structure Fit (c : Conf) (l : List Int) : Prop where
  ok : OKc c
  few : many c.block ≤ 4096
  len : (l.length : Int) = cellsN (many c.block)
  u : ∀ x, x ∈ l → U64 x
end
end Go.Lv.Ld
