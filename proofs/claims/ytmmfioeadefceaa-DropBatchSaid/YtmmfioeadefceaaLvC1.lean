import Derived.Test.YtmmfioeadefceaaLvP6
import Derived.Test.YtmmfioeadefceaaLvD2
namespace Go.Lv.Ld
set_option linter.all false
noncomputable section
open Go Go.Lv Go.IntWalk

theorem awake13 : lodgerlaw13_awake = some true := by kernel_rfl
theorem First_l (w : Int) (hw : U64 w) (N : Int) (hN : N ≤ 64) : ∀ (d n : Nat) (i : Int), d < n → 0 ≤ i → (N - i).toNat = d → bits_First_l0 n w N i = some (fbA w d i) := by
  intro d
  induction d with
  | zero =>
    intro n i hn h1 h2
    obtain ⟨m, rfl⟩ : ∃ m, n = m + 1 := ⟨n - 1, by omega⟩
    rw [su0_bits_First]
    unfold bits_First_s0
    simp (disch := omega) only [i64_in, u64_in, u32_in, u8_in, u16_in, Option.bind_some, Option.bind_none, Option.bind_eq_bind, ↓Bool.cond_eq_ite, decide_eq_true_eq, beq_iff_eq, bne_iff_ne, ne_eq, Bool.not_eq_true', Bool.not_eq_true, Bool.not_eq_false', Bool.not_not, decide_eq_false_iff_not, if_pos, if_neg, reduceIte, not_true_eq_false, not_false_eq_true, Bool.false_eq_true, Bool.true_eq_false, reduceCtorEq]
    rfl
  | succ d ih =>
    intro n i hn h1 h2
    obtain ⟨m, rfl⟩ : ∃ m, n = m + 1 := ⟨n - 1, by omega⟩
    rw [su0_bits_First]
    unfold bits_First_s0
    simp (disch := omega) only [Has_eq hw h1 (by omega), i64_in, u64_in, u32_in, u8_in, u16_in, Option.bind_some, Option.bind_none, Option.bind_eq_bind, ↓Bool.cond_eq_ite, decide_eq_true_eq, beq_iff_eq, bne_iff_ne, ne_eq, Bool.not_eq_true', Bool.not_eq_true, Bool.not_eq_false', Bool.not_not, decide_eq_false_iff_not, if_pos, if_neg, reduceIte, not_true_eq_false, not_false_eq_true, Bool.false_eq_true, Bool.true_eq_false, reduceCtorEq]
    rw [ih m (i + 1) (by omega) (by omega) (by omega), fbA_succ]
    cases hs w i <;> rfl
theorem First_eq {w : Int} (hw : U64 w) : word_First w = some (fb w 0 32) := by
  unfold word_First bits_First bits_First_n bits_First_e
  rw [First_l w hw 32 (by omega) 32 big 0 (big_lt (by omega)) (by omega) rfl]
  rfl
def cntA (w : Int) : Nat → Int → Int
  | 0, _ => 0
  | n + 1, i => (if hs w i then 1 else 0) + cntA w n (i + 1)
theorem cntA_b (w : Int) : ∀ (n : Nat) (i : Int), 0 ≤ cntA w n i ∧ cntA w n i ≤ n ∧ (cntA w n i = n ↔ (fbA w n i).2 = false) := by
  intro n
  induction n with
  | zero => intro i; exact ⟨Int.le_refl _, Int.le_refl _, by simp [cntA, fbA]⟩
  | succ n ih =>
    intro i
    obtain ⟨a, b, c⟩ := ih (i + 1)
    rw [fbA_succ]
    unfold cntA
    cases hs w i
    · simp only [Bool.false_eq_true, if_false]
      refine ⟨by omega, by omega, ?_⟩
      simp
      omega
    · simp only [if_true]
      refine ⟨by omega, by omega, ?_⟩
      rw [← c]
      omega
theorem and_1 {w i : Int} (hw : U64 w) (hi : 0 ≤ i) : bit_and .u64 (shr .u64 w i) 1 = if hs w i then 1 else 0 := by
  have h := shr_has hw hi
  have hd := Nat.div_le_self w.toNat (2 ^ min i.toNat 64)
  have hu : U64 ((w.toNat / 2 ^ min i.toNat 64 : Nat) : Int) := by
    generalize w.toNat / 2 ^ min i.toNat 64 = q at hd
    unfold U64 at *; omega
  rw [shr_u hw hi, and_u hu (by unfold U64; omega), Int.toNat_natCast, show (1 : Int).toNat = 1 from rfl, Nat.and_one_is_mod] at h ⊢
  rw [← h]
  generalize w.toNat / 2 ^ min i.toNat 64 = q
  rcases Nat.mod_two_eq_zero_or_one q with e | e <;> rw [e] <;> rfl
theorem Count_l (w : Int) (hw : U64 w) : ∀ (d n : Nat) (i a : Int), d < n → 0 ≤ i → (32 - i).toNat = d → 0 ≤ a → a ≤ 1000 → i ≤ 32 → a ≤ i → bits_Count_l0 n w a 32 i = some (a + cntA w d i) := by
  intro d
  induction d with
  | zero =>
    intro n i a hn h1 h2 h3 h4 h5 h6
    obtain ⟨m, rfl⟩ : ∃ m, n = m + 1 := ⟨n - 1, by omega⟩
    rw [su0_bits_Count]
    unfold bits_Count_s0
    simp (disch := omega) only [i64_in, u64_in, u32_in, u8_in, u16_in, Option.bind_some, Option.bind_none, Option.bind_eq_bind, ↓Bool.cond_eq_ite, decide_eq_true_eq, beq_iff_eq, bne_iff_ne, ne_eq, Bool.not_eq_true', Bool.not_eq_true, Bool.not_eq_false', Bool.not_not, decide_eq_false_iff_not, if_pos, if_neg, reduceIte, not_true_eq_false, not_false_eq_true, Bool.false_eq_true, Bool.true_eq_false, reduceCtorEq]
    simp [cntA]
  | succ d ih =>
    intro n i a hn h1 h2 h3 h4 h5 h6
    obtain ⟨m, rfl⟩ : ∃ m, n = m + 1 := ⟨n - 1, by omega⟩
    rw [su0_bits_Count]
    unfold bits_Count_s0
    have hb : (if hs w i = true then (1 : Int) else 0) ≤ 1 ∧ 0 ≤ (if hs w i = true then (1 : Int) else 0) := by split <;> omega
    simp (disch := omega) only [and_1 hw h1, i64_in, u64_in, u32_in, u8_in, u16_in, Option.bind_some, Option.bind_none, Option.bind_eq_bind, ↓Bool.cond_eq_ite, decide_eq_true_eq, beq_iff_eq, bne_iff_ne, ne_eq, Bool.not_eq_true', Bool.not_eq_true, Bool.not_eq_false', Bool.not_not, decide_eq_false_iff_not, if_pos, if_neg, reduceIte, not_true_eq_false, not_false_eq_true, Bool.false_eq_true, Bool.true_eq_false, reduceCtorEq]
    rw [ih m (i + 1) _ (by omega) (by omega) (by omega) (by omega) (by omega) (by omega) (by omega), show cntA w (d + 1) i = (if hs w i then 1 else 0) + cntA w d (i + 1) from rfl, Int.add_assoc]
def ful (w : Int) : Bool := !(fb w 0 32).2
theorem Full_eq {w : Int} (hw : U64 w) : word_Full w = some (ful w) := by
  unfold word_Full bits_Count bits_Count_n bits_Count_e
  rw [Count_l w hw 32 big 0 0 (big_lt (by omega)) (by omega) rfl (by omega) (by omega) (by omega) (by omega)]
  obtain ⟨a, b, c⟩ := cntA_b w 32 0
  unfold ful fb
  rw [Option.bind_some, Int.zero_add, show ((32 : Int) - 0).toNat = 32 from rfl]
  congr 1
  cases h : (fbA w 32 0).2
  · rw [h] at c
    simpa using c
  · rw [h] at c
    simp at c ⊢
    exact c
theorem ful_iff {w : Int} : ful w = true ↔ ∀ k : Int, 0 ≤ k → k < 32 → hs w k = true := by
  unfold ful
  cases h : (fb w 0 32).2
  · simp only [Bool.not_false, true_iff]
    exact fun k h1 h2 => (fb_no h).2 k h1 h2
  · obtain ⟨a, b, c, d⟩ := fb_yes h
    simp only [Bool.not_true, Bool.false_eq_true, false_iff]
    intro q
    rw [q _ a b] at c
    cases c

/-- A word with a bit claimed. -/
def cw (w b : Int) : Int := (st w b + 4294967296) % 18446744073709551616
theorem cw_u (w b : Int) : U64 (cw w b) := by unfold cw U64; omega
theorem hs_mod {w i : Int} (hw : 0 ≤ w) (hi : 0 ≤ i) (h : i < 32) : hs w i = hs (w % 4294967296) i := by
  simp only [hs_eq]
  have e : (w % 4294967296).toNat = w.toNat % 2 ^ 32 := by omega
  rw [e, Nat.testBit_mod_two_pow]
  have : i.toNat < 32 := by omega
  simp [this]
theorem hs_cong {w v i : Int} (hw : 0 ≤ w) (hv : 0 ≤ v) (hi : 0 ≤ i) (h : i < 32) (e : w % 4294967296 = v % 4294967296) : hs w i = hs v i := by rw [hs_mod hw hi h, hs_mod hv hi h, e]
theorem hs_cw {w b i : Int} (hw : U64 w) (hb : 0 ≤ b) (hb2 : b < 64) (hi : 0 ≤ i) (h : i < 32) : hs (cw w b) i = (hs w i || decide (b = i)) := by
  rw [← hs_st hb hi]
  have u := st_u hw hb hb2
  have v := cw_u w b
  refine hs_cong v.1 u.1 hi h ?_
  unfold cw
  omega
theorem Claim_eq {w b : Int} (hw : U64 w) (h0 : 0 ≤ b) (h : b < 64) : word_Claim w b = some (cw w b) := by
  unfold word_Claim word_leaf__set
  rw [Set_eq hw h0 h, Option.bind_some, Option.bind_some, IntKind.wrap_u64]
  rfl
def ad (c : Conf) (o : Int) : Int := IntKind.u32.wrap (c.block.base + IntKind.u32.wrap o)
/-- A step of claiming. -/
def look (c : Conf) (l : List Int) (o : Oq) : List Int × Oq × Bool :=
  if (fb (gt l o.leaf) 0 32).2 then (l, { o with phase := 3, bit := (fb (gt l o.leaf) 0 32).1, word := gt l o.leaf }, false)
  else if o.sought + 1 ≥ c.shards then (l, { o with phase := 6, sought := o.sought + 1, word := 0, seen := [], at_ := 0 }, false)
  else (l, { o with phase := 1, sought := o.sought + 1, word := 0, at_ := 0 }, false)
def got (c : Conf) (o : Oq) : Oq := { o with answer := ⟨o.answer.err, ad c (32 * o.leaf + o.bit), o.answer.used, o.answer.addrs, o.answer.errs⟩, word := 0 }
def clai (c : Conf) (l : List Int) (o : Oq) : List Int × Oq × Bool :=
  if gt l o.leaf = o.word then
    (if ful (cw o.word o.bit) then (pt l o.leaf (cw o.word o.bit), { got c o with phase := 4, full := true, at_ := 0 }, true)
     else (pt l o.leaf (cw o.word o.bit), goes c (got c o), true))
  else if o.ask.kind = 1 then (l, { o with phase := 2, word := 0 }, false) else (l, { o with phase := 8, word := 0 }, false)
theorem look_eq {c : Conf} {l : List Int} {o : Oq} (h0 : 0 ≤ o.leaf) (h1 : o.leaf < (l.length : Int)) (hu : U64 (gt l o.leaf)) (s0 : 0 ≤ o.sought) (s1 : o.sought ≤ 1000000) : claim_look c l o = some (look c l o) := by
  unfold claim_look look
  rw [Load_eq h0 h1, Option.bind_some, First_eq hu, i64_in (o.sought + 1) (by omega)]
  simp only [Option.bind_some, Option.bind_none, Option.bind_eq_bind, ↓Bool.cond_eq_ite, decide_eq_true_eq, beq_iff_eq, bne_iff_ne, ne_eq, Bool.not_eq_true', Bool.not_eq_true, Bool.not_eq_false', Bool.not_not, decide_eq_false_iff_not, reduceIte, not_true_eq_false, not_false_eq_true, Bool.false_eq_true, Bool.true_eq_false, reduceCtorEq]
  split
  · rfl
  · split <;> rfl
theorem clai_eq {c : Conf} {l : List Int} {o : Oq} (hok : OKb c.block) (hb : U32 c.block.base) (ha : ∀ x, x ∈ o.ask.addrs → U32 x) (hi : 0 ≤ o.item) (hi2 : o.item ≤ 1000000) (h0 : 0 ≤ o.leaf) (h1 : o.leaf < (l.length : Int)) (h1b : o.leaf ≤ 1000000) (hl : l.length ≤ 137438953472) (hw : U64 o.word) (b0 : 0 ≤ o.bit) (b1 : o.bit < 64) : claim_claim c l o = some (clai c l o) := by
  unfold claim_claim clai
  have hl2 : l.length ≤ maxList := hl
  have e0 : ∀ x, IntKind.u32.wrap (c.block.base + IntKind.u32.wrap x) = ad c x := fun x => rfl
  refine bnd (Claim_eq hw b0 b1) ?_
  refine bnd (Swap_eq h0 h1 hl2) ?_
  have e1 : place_Offset o.leaf o.bit = some (32 * o.leaf + o.bit) := by
    unfold place_Offset
    simp (disch := omega) only [i64_in, u64_in, u32_in, u8_in, u16_in, Option.bind_some, Option.bind_none, Option.bind_eq_bind, ↓Bool.cond_eq_ite, decide_eq_true_eq, beq_iff_eq, bne_iff_ne, ne_eq, Bool.not_eq_true', Bool.not_eq_true, Bool.not_eq_false', Bool.not_not, decide_eq_false_iff_not, if_pos, if_neg, reduceIte, not_true_eq_false, not_false_eq_true, Bool.false_eq_true, Bool.true_eq_false, reduceCtorEq]
    congr 1; omega
  have e2 : block_Address c.block (32 * o.leaf + o.bit) = some (ad c (32 * o.leaf + o.bit)) := by unfold block_Address; rw [e0]
  have e3 := Full_eq (cw_u o.word o.bit)
  have hg := Goes_eq (c := c) (o := got c o) hok hb ha hi hi2
  by_cases q : gt l o.leaf = o.word
  · rw [if_pos q, if_pos q]
    refine cf rfl ?_
    refine cf rfl ?_
    refine bnd e1 ?_
    refine bnd e2 ?_
    refine bnd e3 ?_
    cases hf : ful (cw o.word o.bit)
    · rw [if_neg (by simp)]
      refine cf rfl ?_
      exact bnd hg rfl
    · rw [if_pos rfl]
      exact ct rfl rfl
  · rw [if_neg q, if_neg q]
    refine ct rfl ?_
    by_cases k : o.ask.kind = 1
    · rw [if_pos k]
      exact ct (beq_iff_eq.2 k) rfl
    · rw [if_neg k]
      refine cf (beq_eq_false_iff_ne.2 k) ?_
      exact ct rfl rfl
def cstep (c : Conf) (l : List Int) (o : Oq) : List Int × Oq × Bool := if o.phase = 2 then look c l o else clai c l o
theorem CStep2_eq {c : Conf} {l : List Int} {o : Oq} (hp : o.phase = 2) (h0 : 0 ≤ o.leaf) (h1 : o.leaf < (l.length : Int)) (hu : U64 (gt l o.leaf)) (s0 : 0 ≤ o.sought) (s1 : o.sought ≤ 1000000) : claim_Step c l o = some (look c l o) := by
  unfold claim_Step
  rw [look_eq h0 h1 hu s0 s1, hp]
  rfl
theorem CStep3_eq {c : Conf} {l : List Int} {o : Oq} (hp : o.phase = 3) (hok : OKb c.block) (hb : U32 c.block.base) (ha : ∀ x, x ∈ o.ask.addrs → U32 x) (hi : 0 ≤ o.item) (hi2 : o.item ≤ 1000000) (h0 : 0 ≤ o.leaf) (h1 : o.leaf < (l.length : Int)) (h1b : o.leaf ≤ 1000000) (hl : l.length ≤ 137438953472) (hw : U64 o.word) (b0 : 0 ≤ o.bit) (b1 : o.bit < 64) : claim_Step c l o = some (clai c l o) := by
  unfold claim_Step
  rw [clai_eq hok hb ha hi hi2 h0 h1 h1b hl hw b0 b1, hp]
  rfl

/-- Operations whose leaf and bit there are. -/
structure Wh13 (c : Conf) (o : Oq) : Prop extends WhO c o where
  bit0 : 0 ≤ o.bit
  bit1 : o.bit ≤ 31
  inn : 32 * o.leaf + o.bit < many c.block
  sou0 : 0 ≤ o.sought
  sou1 : o.sought ≤ 1000
theorem rFits13_eq {c : Conf} {l : List Int} {o : Oq} (hc : WConf c) (hl : ∀ x, x ∈ l → U64 x) (ho : WOp o) : ∃ b, lodgerref13_Fits c l o = some b ∧ (b = true → Fit c l ∧ Wh13 c o) := by
  unfold lodgerref13_Fits
  obtain ⟨b, e, hb⟩ := rFits_eq hc hl
  rw [e]
  cases b
  · exact ⟨false, rfl, fun h => by cases h⟩
  have fit := hb rfl
  obtain ⟨b, e2, hb2⟩ := rWhole_eq fit.ok.blk hc ho
  rw [Option.bind_some, e2]
  cases b
  · exact ⟨false, rfl, fun h => by cases h⟩
  have w := hb2 rfl
  have hm := many_b fit.ok.blk
  have hL := leaves_b hm.1 hm.2
  have w0 := w.leaf0; have w1 := w.leaf1
  rw [rMany_eq fit.ok.blk]
  by_cases q1 : o.bit ≥ 0
  · by_cases q2 : o.bit ≤ 31
    · simp (disch := omega) only [i64_in, u64_in, u32_in, u8_in, u16_in, Option.bind_some, Option.bind_none, Option.bind_eq_bind, ↓Bool.cond_eq_ite, decide_eq_true_eq, beq_iff_eq, bne_iff_ne, ne_eq, Bool.not_eq_true', Bool.not_eq_true, Bool.not_eq_false', Bool.not_not, decide_eq_false_iff_not, if_pos, if_neg, reduceIte, not_true_eq_false, not_false_eq_true, Bool.false_eq_true, Bool.true_eq_false, reduceCtorEq]
      split
      · split
        · exact ⟨_, rfl, fun h => ⟨fit, ⟨w, q1, q2, by assumption, by assumption, by simpa using h⟩⟩⟩
        · exact ⟨false, rfl, fun h => by cases h⟩
      · exact ⟨false, rfl, fun h => by cases h⟩
    · simp (disch := omega) only [i64_in, u64_in, u32_in, u8_in, u16_in, Option.bind_some, Option.bind_none, Option.bind_eq_bind, ↓Bool.cond_eq_ite, decide_eq_true_eq, beq_iff_eq, bne_iff_ne, ne_eq, Bool.not_eq_true', Bool.not_eq_true, Bool.not_eq_false', Bool.not_not, decide_eq_false_iff_not, if_pos, if_neg, reduceIte, not_true_eq_false, not_false_eq_true, Bool.false_eq_true, Bool.true_eq_false, reduceCtorEq]; exact ⟨false, rfl, fun h => by cases h⟩
  · simp (disch := omega) only [i64_in, u64_in, u32_in, u8_in, u16_in, Option.bind_some, Option.bind_none, Option.bind_eq_bind, ↓Bool.cond_eq_ite, decide_eq_true_eq, beq_iff_eq, bne_iff_ne, ne_eq, Bool.not_eq_true', Bool.not_eq_true, Bool.not_eq_false', Bool.not_not, decide_eq_false_iff_not, if_pos, if_neg, reduceIte, not_true_eq_false, not_false_eq_true, Bool.false_eq_true, Bool.true_eq_false, reduceCtorEq]; exact ⟨false, rfl, fun h => by cases h⟩
theorem Fit.leaf {c : Conf} {l : List Int} (hf : Fit c l) {i : Int} (h0 : 0 ≤ i) (h1 : i < leaves (many c.block)) : i < (l.length : Int) ∧ i ≤ 1000000 ∧ U64 (gt l i) := by
  have hm := many_b hf.ok.blk
  have ha := leaves_b hm.1 hm.2; have hb := tops_b hm.1 hm.2
  have hl := hf.len
  unfold cellsN at hl
  have : i < (l.length : Int) := by omega
  exact ⟨this, by omega, hf.u _ (gt_mem h0 this)⟩
theorem pure_ClaimKeeps (c : Conf) (l : List Int) (o : Oq) (hc : WfV E (.st 1) c) (hl : WfV E (.slice u64) l) (ho : WfV E (.st 4) o) : lodgerlaw13_ClaimKeeps c l o = some true := by
  have wc := v_conf hc
  have wo := v_op ho
  obtain ⟨b, e, hb⟩ := rFits13_eq wc (v_u64s hl) wo
  unfold lodgerlaw13_ClaimKeeps lodgerlaw13_looks
  rw [awake13, e]
  cases b
  · rfl
  obtain ⟨fit, w⟩ := hb rfl
  obtain ⟨l1, l2, l3⟩ := fit.leaf w.leaf0 w.leaf1
  have hs := fit.small
  have hm : l.length ≤ maxList := hs
  have hm2 : o.seen.length ≤ maxList := by have := w.ls; unfold maxList; omega
  have s1 : lodgerref02_Same l l = some true := (lodgerref02_Same_eq l l (by omega)).trans (by simp)
  have s2 : lodgerref02_Same o.seen o.seen = some true := (lodgerref02_Same_eq o.seen o.seen (by have := w.ls; omega)).trans (by simp)
  have i3 : o.item ≤ 1000000 := by have := w.item1; omega
  by_cases p2 : o.phase = 2
  · have := CStep2_eq (c := c) p2 w.leaf0 l1 l3 w.sou0 (by have := w.sou1; omega)
    simp only [p2, this, s1, s2, hm, hm2, decide_true, Option.bind_some, Option.bind_none, Option.bind_eq_bind, ↓Bool.cond_eq_ite, decide_eq_true_eq, beq_iff_eq, bne_iff_ne, ne_eq, Bool.not_eq_true', Bool.not_eq_true, Bool.not_eq_false', Bool.not_not, decide_eq_false_iff_not, reduceIte, not_true_eq_false, not_false_eq_true, Bool.false_eq_true, Bool.true_eq_false, reduceCtorEq]
  · by_cases p3 : o.phase = 3
    · have := CStep3_eq (c := c) p3 fit.ok.blk wc.block.base wo.ask.addrs.2 w.item0 i3 w.leaf0 l1 l2 hs wo.word w.bit0 (by have := w.bit1; omega)
      simp only [p3, this, s1, s2, hm, hm2, decide_true, beq_self_eq_true, show ((3 : Int) = 2) = False by decide, Option.bind_some, Option.bind_none, Option.bind_eq_bind, ↓Bool.cond_eq_ite, decide_eq_true_eq, beq_iff_eq, bne_iff_ne, ne_eq, Bool.not_eq_true', Bool.not_eq_true, Bool.not_eq_false', Bool.not_not, decide_eq_false_iff_not, reduceIte, not_true_eq_false, not_false_eq_true, Bool.false_eq_true, Bool.true_eq_false, reduceCtorEq]
    · simp only [p2, p3, beq_eq_false_iff_ne, Option.bind_some, Option.bind_none, Option.bind_eq_bind, ↓Bool.cond_eq_ite, decide_eq_true_eq, beq_iff_eq, bne_iff_ne, ne_eq, Bool.not_eq_true', Bool.not_eq_true, Bool.not_eq_false', Bool.not_not, decide_eq_false_iff_not, reduceIte, not_true_eq_false, not_false_eq_true, Bool.false_eq_true, Bool.true_eq_false, reduceCtorEq]
theorem pure_ClaimLook (c : Conf) (l : List Int) (o : Oq) (hc : WfV E (.st 1) c) (hl : WfV E (.slice u64) l) (ho : WfV E (.st 4) o) : lodgerlaw13_ClaimLook c l o = some true := by
  have wc := v_conf hc
  have wo := v_op ho
  obtain ⟨b, e, hb⟩ := rFits13_eq wc (v_u64s hl) wo
  unfold lodgerlaw13_ClaimLook
  rw [awake13, e]
  cases b
  · rfl
  obtain ⟨fit, w⟩ := hb rfl
  obtain ⟨l1, l2, l3⟩ := fit.leaf w.leaf0 w.leaf1
  have hs := fit.small
  have s1 : lodgerref02_Same l l = some true := (lodgerref02_Same_eq l l (by omega)).trans (by simp)
  by_cases p2 : o.phase = 2
  · have hst := CStep2_eq (c := c) p2 w.leaf0 l1 l3 w.sou0 (by have := w.sou1; omega)
    have hg := geti_eq w.leaf0 l1
    have w0 := w.sou0; have w1 := w.sou1
    rw [i64_in (o.sought + 1) (by omega)]
    have hF := Full_eq l3
    unfold look at hst
    unfold ful at hF
    cases q : (fb (gt l o.leaf) 0 32).2
    · rw [q] at hst hF
      by_cases r : o.sought + 1 ≥ c.shards
      · rw [if_neg (by simp), if_pos r] at hst
        have r2 : ¬ (o.sought + 1 < c.shards) := by omega
        simp only [p2, hst, s1, hg, hF, r, r2, beq_self_eq_true, decide_true, decide_false, Option.bind_some, Option.bind_none, Option.bind_eq_bind, ↓Bool.cond_eq_ite, decide_eq_true_eq, beq_iff_eq, bne_iff_ne, ne_eq, Bool.not_eq_true', Bool.not_eq_true, Bool.not_eq_false', Bool.not_not, decide_eq_false_iff_not, reduceIte, not_true_eq_false, not_false_eq_true, Bool.false_eq_true, Bool.true_eq_false, reduceCtorEq]
        rfl
      · rw [if_neg (by simp), if_neg r] at hst
        have r2 : (o.sought + 1 < c.shards) := by omega
        simp only [p2, hst, s1, hg, hF, r, r2, beq_self_eq_true, decide_true, decide_false, Option.bind_some, Option.bind_none, Option.bind_eq_bind, ↓Bool.cond_eq_ite, decide_eq_true_eq, beq_iff_eq, bne_iff_ne, ne_eq, Bool.not_eq_true', Bool.not_eq_true, Bool.not_eq_false', Bool.not_not, decide_eq_false_iff_not, reduceIte, not_true_eq_false, not_false_eq_true, Bool.false_eq_true, Bool.true_eq_false, reduceCtorEq]
        rfl
    · obtain ⟨a1, a2, a3, a4⟩ := fb_yes q
      rw [q, if_pos rfl] at hst
      simp only [p2, hst, s1, hg, beq_self_eq_true, rHas_eq l3 a1 (show (fb (gt l o.leaf) 0 32).1 < 64 by omega), a3, Option.bind_some, Option.bind_none, Option.bind_eq_bind, ↓Bool.cond_eq_ite, decide_eq_true_eq, beq_iff_eq, bne_iff_ne, ne_eq, Bool.not_eq_true', Bool.not_eq_true, Bool.not_eq_false', Bool.not_not, decide_eq_false_iff_not, reduceIte, not_true_eq_false, not_false_eq_true, Bool.false_eq_true, Bool.true_eq_false, reduceCtorEq]
  · simp only [p2, bne_iff_ne, Option.bind_some, Option.bind_none, Option.bind_eq_bind, ↓Bool.cond_eq_ite, decide_eq_true_eq, beq_iff_eq, bne_iff_ne, ne_eq, Bool.not_eq_true', Bool.not_eq_true, Bool.not_eq_false', Bool.not_not, decide_eq_false_iff_not, reduceIte, not_true_eq_false, not_false_eq_true, Bool.false_eq_true, Bool.true_eq_false, reduceCtorEq]
end
end Go.Lv.Ld
