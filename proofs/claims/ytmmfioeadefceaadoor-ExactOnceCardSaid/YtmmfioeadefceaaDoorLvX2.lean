import Derived.Test.YtmmfioeadefceaaDoorLvX1
namespace Go.Lv.Ld
set_option linter.all false
noncomputable section
open Go Go.Lv Go.IntWalk

theorem awake18 : lodgerlaw18_awake = some true := by kernel_rfl
theorem Held_l (c : Conf) (o : Int) (few : c.held.length ≤ 64) : ∀ (d n : Nat) (j : Int), d < n → 0 ≤ j → ((c.held.length : Int) - j).toNat = d → j ≤ c.held.length → lodgerref05_Held_l0 n o j c = some (decide (o ∈ c.held.drop j.toNat)) := by
  intro d
  induction d with
  | zero =>
    intro n j hn h1 h2 h3
    obtain ⟨m, rfl⟩ : ∃ m, n = m + 1 := ⟨n - 1, by omega⟩
    rw [su0_lodgerref05_Held]
    unfold lodgerref05_Held_s0
    refine cf (decide_eq_false (by omega)) ?_
    rw [List.drop_eq_nil_of_le (by omega)]
    simp
  | succ d ih =>
    intro n j hn h1 h2 h3
    obtain ⟨m, rfl⟩ : ∃ m, n = m + 1 := ⟨n - 1, by omega⟩
    have hj : j < (c.held.length : Int) := by omega
    rw [su0_lodgerref05_Held]
    unfold lodgerref05_Held_s0
    rw [i64_in (j + 1) (by omega), drop_cons h1 hj]
    refine ct (decide_eq_true hj) ?_
    refine bnd (geti_eq h1 hj) ?_
    by_cases q : gt c.held j = o
    · refine ct (beq_iff_eq.2 q) ?_
      rw [decide_eq_true]; rw [q]; exact List.mem_cons_self
    · refine cf (beq_eq_false_iff_ne.2 q) ?_
      rw [ih m (j + 1) (by omega) (by omega) (by omega) (by omega)]
      congr 1
      rw [decide_eq_decide, List.mem_cons]
      exact ⟨.inr, fun h => h.resolve_left (fun e => q e.symm)⟩
theorem rHeld_eq {c : Conf} (few : c.held.length ≤ 64) (o : Int) : lodgerref05_Held c o = some (heldB c o) := by
  have := Held_l c o few c.held.length big 0 (big_lt (by omega)) (by omega) (by omega) (by omega)
  exact this
theorem rFind_c {c : Conf} (ok : OKc c) (ub : U32 c.block.base) {a : Int} (ha : U32 a) : lodgerref05_Find c a = some (if ins c.block a then (if heldB c (a - c.block.base) then (0, 4) else (a - c.block.base, 0)) else (0, 3)) := by
  unfold lodgerref05_Find
  refine bnd (rOffset_eq ok.blk ub ha) ?_
  by_cases q : ins c.block a
  · rw [if_pos q, if_pos q]
    refine cf rfl ?_
    refine bnd (rHeld_eq ok.few _) ?_
    cases heldB c (a - c.block.base)
    · exact cf rfl rfl
    · exact ct rfl rfl
  · rw [if_neg q, if_neg q]
    exact ct rfl rfl
/-- What is right to ask. -/
structure Right (c : Conf) (a : Ask) : Prop where
  ok : OKc c
  few : many c.block ≤ 256
  kind : a.kind = 2 ∨ a.kind = 5
  short : a.addrs.length ≤ 100
  ins : ins c.block a.addr
  free : heldB c (a.addr - c.block.base) = false
theorem Check_k {c : Conf} (ok : OKc c) (ub : U32 c.block.base) {a : Int} (ha : U32 a) (n : Nat) : lodgerref10_Check_l0 (n + 1 + 1 + 1) [a] 0 c = some (if ins c.block a then (if heldB c (a - c.block.base) then 4 else 0) else 3) := by
  rw [su0_lodgerref10_Check]
  unfold lodgerref10_Check_s0
  refine ct rfl ?_
  refine bnd (show geti [a] 0 = some a from rfl) ?_
  refine bnd (rFind_c ok ub ha) ?_
  by_cases r : ins c.block a
  · rw [if_pos r, if_pos r]
    cases heldB c (a - c.block.base)
    · refine cf rfl ?_
      rw [su1_lodgerref10_Check]
      unfold lodgerref10_Check_s1
      refine cf rfl ?_
      rw [show IntKind.i64.wrap (0 + 1) = 1 from i64_in _ (by omega), su0_lodgerref10_Check]
      unfold lodgerref10_Check_s0
      exact cf rfl rfl
    · exact ct rfl rfl
  · rw [if_neg r, if_neg r]
    exact ct rfl rfl
theorem Check_eq {c : Conf} {a : Ask} (ok : OKc c) (ub : U32 c.block.base) (ha : U32 a.addr) (hk : a.kind = 2 ∨ a.kind = 5) : lodgerref10_Check c a = some (if ins c.block a.addr then (if heldB c (a.addr - c.block.base) then 4 else 0) else 3) := by
  unfold lodgerref10_Check lodgerref10_Check_n lodgerref10_Check_e
  have hn : lodgerref10_Names a = some [a.addr] := by
    unfold lodgerref10_Names
    rcases hk with h | h
    · exact ct (beq_iff_eq.2 h) rfl
    · refine cf (beq_eq_false_iff_ne.2 (by omega)) ?_
      refine cf (beq_eq_false_iff_ne.2 (by omega)) ?_
      exact ct (beq_iff_eq.2 h) rfl
  refine cf (decide_eq_false (by omega)) ?_
  refine cf (decide_eq_false (by omega)) ?_
  refine cf (beq_eq_false_iff_ne.2 (by omega)) ?_
  refine cf (beq_eq_false_iff_ne.2 (by omega)) ?_
  refine bnd hn ?_
  rw [big3]
  exact Check_k ok ub ha (4611686018427387900 + 1)
theorem right_eq {c : Conf} {a : Ask} (hc : WConf c) (ha : WAsk a) : ∃ b, lodgerlaw18_right c a = some b ∧ (b = true → Right c a) := by
  unfold lodgerlaw18_right lodgerref17_Small lodgerref10_Few
  obtain ⟨b, e, hb⟩ := rMay_eq hc
  rw [e]
  cases b
  · exact ⟨false, rfl, fun h => by cases h⟩
  have ok := hb rfl
  rw [rMany_eq ok.blk]
  have e1 : ((some true).bind fun r1 => bif r1 then ((some (many c.block)).bind fun r2 => some (decide (r2 ≤ 256))) else some false) = some (decide (many c.block ≤ 256)) := rfl
  rw [e1]
  by_cases q1 : many c.block ≤ 256
  · rw [decide_eq_true q1]
    by_cases q2 : (a.addrs.length : Int) ≤ 100
    · rw [decide_eq_true q2]
      have key : (a.kind = 2 ∨ a.kind = 5) → ∃ b, ((lodgerref10_Check c a).bind fun r3 => some (r3 == 0)) = some b ∧ (b = true → Right c a) := by
        intro hk
        rw [Check_eq ok hc.block.base ha.addr hk]
        refine ⟨_, rfl, fun h => ?_⟩
        by_cases r : ins c.block a.addr
        · rw [if_pos r] at h
          cases hh : heldB c (a.addr - c.block.base)
          · exact ⟨ok, q1, hk, by omega, r, hh⟩
          · rw [hh] at h; cases h
        · rw [if_neg r] at h; cases h
      by_cases k2 : a.kind = 2
      · obtain ⟨b, g1, g2⟩ := key (.inl k2)
        refine ⟨b, ?_, g2⟩
        show (bif a.kind == 2 then _ else _) = some b
        exact ct (beq_iff_eq.2 k2) g1
      · by_cases k5 : a.kind = 5
        · obtain ⟨b, g1, g2⟩ := key (.inr k5)
          refine ⟨b, ?_, g2⟩
          show (bif a.kind == 2 then _ else _) = some b
          exact cf (beq_eq_false_iff_ne.2 k2) (ct (beq_iff_eq.2 k5) g1)
        · refine ⟨false, ?_, fun h => by cases h⟩
          show (bif a.kind == 2 then _ else _) = some false
          exact cf (beq_eq_false_iff_ne.2 k2) (cf (beq_eq_false_iff_ne.2 k5) rfl)
    · rw [decide_eq_false q2]; exact ⟨false, rfl, fun h => by cases h⟩
  · rw [decide_eq_false q1]; exact ⟨false, rfl, fun h => by cases h⟩

/-- An exact grant, or a question, under way. -/
structure EO (c : Conf) (a : Ask) (o : Oq) : Prop where
  ask : o.ask = a
  kind : a.kind = 2 ∨ a.kind = 5
  short : a.addrs.length ≤ 100
  u : ∀ x, x ∈ a.addrs → U32 x
  leaf0 : 0 ≤ o.leaf
  leaf1 : o.leaf < leaves (many c.block)
  bit0 : 0 ≤ o.bit
  bit1 : o.bit < 32
  place : 32 * o.leaf + o.bit = a.addr - c.block.base
  item : o.item = 0
  at0 : 0 ≤ o.at_
  at1 : o.at_ ≤ 1
  word : U64 o.word
  seen : o.seen = []
  ad : o.answer.addrs = []
  er : o.answer.errs = []
  ph : o.phase = 0 ∨ o.phase = 3 ∨ o.phase = 4 ∨ o.phase = 5 ∨ o.phase = 8
def xstep (c : Conf) (l : List Int) (o : Oq) : List Int × Oq × Bool :=
  if o.phase = 0 then (l, o, false)
  else if o.phase = 8 then
    (if o.ask.kind = 5 then (l, { o with answer := ⟨o.answer.err, o.answer.addr, hs (gt l o.leaf) o.bit, o.answer.addrs, o.answer.errs⟩, phase := 0 }, true)
     else if hs (gt l o.leaf) o.bit then (l, { o with answer := ⟨5, o.answer.addr, o.answer.used, o.answer.addrs, o.answer.errs⟩, phase := 0 }, true)
     else (l, { o with phase := 3, word := gt l o.leaf }, false))
  else if o.phase = 3 then clai c l o
  else ((hstep c l o).1, (hstep c l o).2, false)
section
variable {c : Conf} {l : List Int} {a : Ask} {o : Oq} (fit : Fit c l) (ub : U32 c.block.base) (eo : EO c a o)
include fit ub eo
theorem X_eq : exact_Step c l o = some (xstep c l o) := by
  obtain ⟨l1, l2, l3⟩ := fit.leaf eo.leaf0 eo.leaf1
  have ua : ∀ x, x ∈ o.ask.addrs → U32 x := by rw [eo.ask]; exact eo.u
  have i0 := eo.item
  have b1 := eo.bit1
  unfold exact_Step xstep
  by_cases p0 : o.phase = 0
  · rw [if_pos p0]; exact ct (beq_iff_eq.2 p0) rfl
  rw [if_neg p0]
  refine cf (beq_eq_false_iff_ne.2 p0) ?_
  by_cases p8 : o.phase = 8
  · rw [if_pos p8]
    refine ct (beq_iff_eq.2 p8) ?_
    refine bnd (Load_eq eo.leaf0 l1) ?_
    have hu : word_Used (gt l o.leaf) o.bit = some (hs (gt l o.leaf) o.bit) := by unfold word_Used; exact bnd (Has_eq l3 eo.bit0 (by omega)) rfl
    refine bnd hu ?_
    by_cases k : o.ask.kind = 5
    · rw [if_pos k]; exact ct (beq_iff_eq.2 k) rfl
    · rw [if_neg k]
      refine cf (beq_eq_false_iff_ne.2 k) ?_
      cases hs (gt l o.leaf) o.bit
      · exact cf rfl rfl
      · exact ct rfl rfl
  rw [if_neg p8]
  refine cf (beq_eq_false_iff_ne.2 p8) ?_
  by_cases p3 : o.phase = 3
  · rw [if_pos p3]
    refine ct (beq_iff_eq.2 p3) ?_
    exact bnd (CStep3_eq p3 fit.ok.blk ub ua (by omega) (by omega) eo.leaf0 l1 l2 fit.small eo.word eo.bit0 (by omega)) rfl
  rw [if_neg p3]
  refine cf (beq_eq_false_iff_ne.2 p3) ?_
  exact bnd (Step_eq fit ub ua (by omega) (by omega) eo.word eo.leaf0 eo.leaf1 eo.at0 eo.at1) rfl
theorem ful_ref {w : Int} (hw : U64 w) : (w.tmod 4294967296 == 4294967295) = ful w := by
  rw [Int.tmod_eq_emod_of_nonneg hw.1, Bool.eq_iff_iff, beq_iff_eq, ful_iff]
  have h1 := hw.1
  constructor
  · intro e k k0 k1
    rw [hs_mod h1 k0 k1, e, show (4294967295 : Int) = msk 32 from rfl, hs_msk (by omega) (by omega) k0]
    exact decide_eq_true k1
  · intro e
    refine hs_ext (v := 4294967295) (by unfold U64; omega) (by unfold U64; omega) fun i i0 i1 => ?_
    rw [show (4294967295 : Int) = msk 32 from rfl, hs_msk (by omega) (by omega) i0]
    by_cases q : i < 32
    · rw [decide_eq_true q, ← hs_mod h1 i0 q]; exact e i i0 q
    · rw [decide_eq_false q, hs_eq]
      apply Nat.testBit_lt_two_pow
      have : (2 : Nat) ^ 32 ≤ 2 ^ i.toNat := Nat.pow_le_pow_right (by omega) (by omega)
      omega
theorem rX_eq : lodgerref18_Step c l o = some (xstep c l o) := by
  obtain ⟨l1, l2, l3⟩ := fit.leaf eo.leaf0 eo.leaf1
  have ua : ∀ x, x ∈ o.ask.addrs → U32 x := by rw [eo.ask]; exact eo.u
  have i0 := eo.item
  have b1 := eo.bit1
  have hkind : o.ask.kind = 2 ∨ o.ask.kind = 5 := by rw [eo.ask]; exact eo.kind
  unfold lodgerref18_Step xstep
  rcases eo.ph with p | p | p | p | p
  · rw [if_pos p]
    refine cf (beq_eq_false_iff_ne.2 (by omega)) ?_
    refine cf (beq_eq_false_iff_ne.2 (by omega)) ?_
    refine cf (beq_eq_false_iff_ne.2 (by omega)) ?_
    exact cf (beq_eq_false_iff_ne.2 (by omega)) rfl
  · rw [if_neg (by omega), if_neg (by omega), if_pos p]
    refine ct (beq_iff_eq.2 p) ?_
    have h13 : lodgerref13_Step c l o = some (clai c l o) := by
      unfold lodgerref13_Step
      refine cf (beq_eq_false_iff_ne.2 (by omega)) ?_
      refine bnd (geti_eq eo.leaf0 l1) ?_
      by_cases q : gt l o.leaf = o.word
      · refine cf (bne_eq_false_iff_eq.2 q) ?_
        have hcl : lodgerref07_Claim o.word o.bit = some (cw o.word o.bit) := by
          unfold lodgerref07_Claim
          refine bnd (rSet_eq eo.word eo.bit0 (by omega)) ?_
          rw [IntKind.wrap_u64]; rfl
        refine bnd hcl ?_
        have hl : l.length ≤ maxList := fit.small
        refine bnd (r2Set_eq hl) ?_
        have hfu : lodgerref07_Full (cw o.word o.bit) = some (ful (cw o.word o.bit)) := by
          unfold lodgerref07_Full; rw [ful_ref fit ub eo (cw_u _ _)]
        refine bnd hfu ?_
        have hk4 : o.ask.kind ≠ 4 := by omega
        have lf0 := eo.leaf0; have bt0 := eo.bit0
        have eo2 : IntKind.i64.wrap (IntKind.i64.wrap (32 * o.leaf) + o.bit) = 32 * o.leaf + o.bit := by rw [i64_in (32 * o.leaf) (by omega), i64_in _ (by omega)]
        rw [eo2, ad_eq]
        cases hf : ful (cw o.word o.bit)
        · refine cf rfl ?_
          rw [clai_not q hf, goes_no (show (got c o).ask.kind ≠ 4 from hk4)]
          refine bnd (rGoes_eq (o := { o with answer := ⟨o.answer.err, ad c (32 * o.leaf + o.bit), o.answer.used, o.answer.addrs, o.answer.errs⟩ }) fit.ok.blk ub ua (show 0 ≤ o.item by omega) (show o.item ≤ 1000000 by omega)) ?_
          rw [goes_no (o := { o with answer := ⟨o.answer.err, ad c (32 * o.leaf + o.bit), o.answer.used, o.answer.addrs, o.answer.errs⟩ }) hk4]
          rfl
        · rw [clai_ful q hf]
          exact ct rfl rfl
      · refine ct (bne_iff_ne.2 q) ?_
        unfold clai
        rw [if_neg q, if_neg (show ¬ o.ask.kind = 1 by omega)]
        exact cf (beq_eq_false_iff_ne.2 (by omega)) rfl
    exact bnd h13 rfl
  · rw [if_neg (by omega), if_neg (by omega), if_neg (by omega)]
    refine cf (beq_eq_false_iff_ne.2 (by omega)) ?_
    refine ct (beq_iff_eq.2 p) ?_
    refine ct (beq_iff_eq.2 p) ?_
    exact bnd (rStep_eq fit ub ua (by omega) (by omega) eo.word eo.leaf0 eo.leaf1 eo.at0 eo.at1) rfl
  · rw [if_neg (by omega), if_neg (by omega), if_neg (by omega)]
    refine cf (beq_eq_false_iff_ne.2 (by omega)) ?_
    refine cf (beq_eq_false_iff_ne.2 (by omega)) ?_
    refine ct (beq_iff_eq.2 p) ?_
    exact bnd (rStep_eq fit ub ua (by omega) (by omega) eo.word eo.leaf0 eo.leaf1 eo.at0 eo.at1) rfl
  · rw [if_neg (by omega), if_pos p]
    refine cf (beq_eq_false_iff_ne.2 (by omega)) ?_
    refine cf (beq_eq_false_iff_ne.2 (by omega)) ?_
    refine cf (beq_eq_false_iff_ne.2 (by omega)) ?_
    refine ct (beq_iff_eq.2 p) ?_
    refine bnd (geti_eq eo.leaf0 l1) ?_
    refine bnd (rHas_eq l3 eo.bit0 (by omega)) ?_
    rcases hkind with k | k
    · rw [if_neg (show ¬ o.ask.kind = 5 by omega)]
      refine ct (beq_iff_eq.2 k) ?_
      cases hs (gt l o.leaf) o.bit
      · refine ct rfl ?_
        exact bnd (geti_eq eo.leaf0 l1) rfl
      · refine cf rfl ?_
        exact ct (beq_iff_eq.2 k) rfl
    · rw [if_pos k]
      refine cf (beq_eq_false_iff_ne.2 (by omega)) ?_
      exact cf (beq_eq_false_iff_ne.2 (by omega)) rfl
end
end
end Go.Lv.Ld
