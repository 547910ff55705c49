import Derived.Test.YtmmfioeadefceaaLvC2
import Derived.Test.YtmmfioeadefceaaLvD3
namespace Go.Lv.Ld
set_option linter.all false
noncomputable section
open Go Go.Lv Go.IntWalk
theorem awake14 : lodgerlaw14_awake = some true := by kernel_rfl
theorem Concat_two (a b : List Int) (h : a.length + b.length ≤ 1000000) : slices_Concat [a, b] = some (a ++ b) := by
  have key : ∀ n, slices_Concat_l0 (n + 1 + 1 + 1 + 1 + 1 + 1) [a, b] 0 [a, b] 2 0 = some (a ++ b) := by
    intro n
    rw [su0_slices_Concat]
    unfold slices_Concat_s0
    rw [i64_in (0 + 1) (by omega)]
    refine ct rfl ?_
    refine bnd (show geti [a, b] 0 = some a from rfl) ?_
    rw [i64_in (0 + (a.length : Int)) (by omega)]
    refine cf (decide_eq_false (by omega)) ?_
    rw [su0_slices_Concat]
    unfold slices_Concat_s0
    rw [i64_in (0 + 1 + 1) (by omega)]
    refine ct rfl ?_
    refine bnd (show geti [a, b] (0 + 1) = some b from rfl) ?_
    rw [i64_in (0 + (a.length : Int) + (b.length : Int)) (by omega)]
    refine cf (decide_eq_false (by omega)) ?_
    rw [su0_slices_Concat]
    unfold slices_Concat_s0
    refine cf rfl ?_
    refine ct (by unfold okLen maxList; exact decide_eq_true (by omega)) ?_
    show slices_Concat_l1 (n + 1 + 1 + 1) [a, b] 2 0 [] = _
    rw [su1_slices_Concat]
    unfold slices_Concat_s1
    rw [i64_in (0 + 1) (by omega)]
    refine ct rfl ?_
    refine bnd (show geti [a, b] 0 = some a from rfl) ?_
    refine ct (decide_eq_true (by unfold maxList; simp only [List.length_nil]; omega)) ?_
    rw [su1_slices_Concat]
    unfold slices_Concat_s1
    rw [i64_in (0 + 1 + 1) (by omega)]
    refine ct rfl ?_
    refine bnd (show geti [a, b] (0 + 1) = some b from rfl) ?_
    refine ct (decide_eq_true (by unfold maxList; simp only [List.nil_append]; omega)) ?_
    rw [su1_slices_Concat]
    unfold slices_Concat_s1
    exact cf rfl rfl
  exact key 4611686018427387898
/-- A word with a bit given back. -/
def dw (w b : Int) : Int := (cl w b + 4294967296) % 18446744073709551616
theorem dw_u (w b : Int) : U64 (dw w b) := by unfold dw U64; omega
theorem Drop_eq {w b : Int} (hw : U64 w) (h0 : 0 ≤ b) (h : b < 64) : word_Drop w b = some (dw w b) := by
  unfold word_Drop word_leaf__clear
  rw [Clear_eq hw h0 h, Option.bind_some, Option.bind_some, IntKind.wrap_u64]
  rfl
theorem hs_dw {w b i : Int} (hw : U64 w) (hb : 0 ≤ b) (hb2 : b < 64) (hi : 0 ≤ i) (h : i < 32) : hs (dw w b) i = (hs w i && !decide (b = i)) := by
  rw [← hs_cl hw hb hi]
  have u := @cl_u w b hw
  have v := dw_u w b
  refine hs_cong v.1 u.1 hi h ?_
  unfold dw
  unfold U64 at u
  omega
/-- What is told. -/
def told (o : Oq) (e : Int) : Oq :=
  if o.ask.kind = 4 then { o with answer := ⟨o.answer.err, o.answer.addr, o.answer.used, o.answer.addrs, o.answer.errs ++ [e]⟩ } else { o with answer := ⟨e, o.answer.addr, o.answer.used, o.answer.addrs, o.answer.errs⟩ }
def dstep (c : Conf) (l : List Int) (o : Oq) : List Int × Oq × Bool :=
  if o.phase = 8 then
    (if hs (gt l o.leaf) o.bit then (l, { o with phase := 9, word := gt l o.leaf }, false) else (l, goes c (told o 6), true))
  else if gt l o.leaf = o.word then
    (if ful o.word then (pt l o.leaf (dw o.word o.bit), { told o 0 with phase := 4, word := 0, full := false, at_ := 0 }, true)
     else (pt l o.leaf (dw o.word o.bit), goes c { told o 0 with word := 0 }, true))
  else (l, { o with phase := 8, word := 0 }, false)
theorem DStep_eq {c : Conf} {l : List Int} {o : Oq} (fit : Fit c l) (ub : U32 c.block.base) (ua : ∀ x, x ∈ o.ask.addrs → U32 x) (i0 : 0 ≤ o.item) (i1 : o.item ≤ 1000000) (hw : U64 o.word) (h0 : 0 ≤ o.leaf) (h1 : o.leaf < leaves (many c.block)) (b0 : 0 ≤ o.bit) (b1 : o.bit < 32) (le : o.answer.errs.length ≤ 900000) : drop_Step c l o = some (dstep c l o) := by
  obtain ⟨l1, l2, l3⟩ := fit.leaf h0 h1
  have hl : l.length ≤ maxList := fit.small
  have cc : ∀ e : Int, slices_Concat [o.answer.errs, [e]] = some (o.answer.errs ++ [e]) := fun e => Concat_two _ _ (by simp only [List.length_cons, List.length_nil]; omega)
  unfold drop_Step dstep
  by_cases p : o.phase = 8
  · rw [if_pos p]
    refine ct (beq_iff_eq.2 p) ?_
    refine bnd (Load_eq h0 l1) ?_
    refine bnd (show word_Used (gt l o.leaf) o.bit = some (hs (gt l o.leaf) o.bit) by unfold word_Used; exact bnd (Has_eq l3 b0 (by omega)) rfl) ?_
    cases hs (gt l o.leaf) o.bit
    · refine cf rfl ?_
      unfold told
      by_cases k : o.ask.kind = 4
      · refine ct (beq_iff_eq.2 k) ?_
        refine bnd (cc 6) ?_
        rw [if_pos k]
        exact bnd (Goes_eq fit.ok.blk ub ua i0 i1) rfl
      · refine cf (beq_eq_false_iff_ne.2 k) ?_
        rw [if_neg k]
        exact bnd (Goes_eq fit.ok.blk ub ua i0 i1) rfl
    · exact ct rfl rfl
  · rw [if_neg p]
    refine cf (beq_eq_false_iff_ne.2 p) ?_
    refine bnd (Drop_eq hw b0 (by omega)) ?_
    refine bnd (Swap_eq h0 l1 hl) ?_
    by_cases q : gt l o.leaf = o.word
    · rw [if_pos q, if_pos q]
      refine cf rfl ?_
      unfold told
      by_cases k : o.ask.kind = 4
      · refine ct (beq_iff_eq.2 k) ?_
        refine bnd (cc 0) ?_
        refine bnd (Full_eq hw) ?_
        rw [if_pos k]
        cases ful o.word
        · refine cf rfl ?_
          exact bnd (Goes_eq fit.ok.blk ub ua i0 i1) rfl
        · exact ct rfl rfl
      · refine cf (beq_eq_false_iff_ne.2 k) ?_
        refine bnd (Full_eq hw) ?_
        rw [if_neg k]
        cases ful o.word
        · refine cf rfl ?_
          exact bnd (Goes_eq fit.ok.blk ub ua i0 i1) rfl
        · exact ct rfl rfl
    · rw [if_neg q, if_neg q]
      exact ct rfl rfl
end
end Go.Lv.Ld
