import Derived.Test.YtmmfioeadefceaaLvE3
namespace Go.Lv.Ld
set_option linter.all false
noncomputable section
open Go Go.Lv Go.IntWalk
/-- A batch at its item. -/
def ob (ad : List Int) (j k : Int) (es : List Int) : Oq := ⟨⟨4, 0, ad⟩, ⟨0, 0, false, [], es⟩, 8, 0, 0, k / 32, k % 32, 0, false, [], 0, 0, j, 0⟩
theorem goes_ph (c : Conf) (o : Oq) : (goes c o).phase = 8 ∨ (goes c o).phase = 0 := by unfold goes; split <;> simp
theorem goes_n4 (c : Conf) (o : Oq) : ((goes c o).phase == 4) = false := beq_eq_false_iff_ne.2 (by rcases goes_ph c o with h | h <;> omega)
section
variable {c : Conf} {m : List Int} {ad es offs w : List Int} {j k ef s N : Int} (fit : Fit c m) (ub : U32 c.block.base) (ua : ∀ x, x ∈ ad → U32 x) (j0 : 0 ≤ j) (j1 : j ≤ 1000) (k0 : 0 ≤ k) (k1 : k < many c.block) (le : es.length ≤ 1000) (e0 : 0 ≤ ef) (e1 : ef ≤ 1000) (s0 : 0 ≤ s) (s1 : s ≤ 90)
include fit ub ua j0 j1 k0 k1 le e0 e1 s0 s1
theorem DB_step (n : Nat) : ∃ (n' : Nat) (s' : Int), n ≤ n' ∧ s < s' ∧ s' ≤ s + 2 ∧ lodgerlaw14_DropBatch_l1 (n + 1 + 1) offs N m ef s c (ob ad j k es) w = lodgerlaw14_DropBatch_l1 n' offs N (bw m k) (ef + 1) s' c (goes c (ob ad j k (es ++ [be m k]))) w := by
  have hm := many_b fit.ok.blk
  have hL := leaves_b hm.1 hm.2
  have t1 := DStep_eq (o := ob ad j k es) fit ub ua j0 (show j ≤ 1000000 by omega) (show U64 (0 : Int) by unfold U64; simp) (show 0 ≤ k / 32 by omega) (show k / 32 < _ by omega) (show 0 ≤ k % 32 by omega) (show k % 32 < 32 by omega) (show es.length ≤ 900000 by omega)
  obtain ⟨l1, l2, l3⟩ := fit.leaf (i := k / 32) (by omega) (by omega)
  unfold bw be
  cases hh : hs (gt m (k / 32)) (k % 32)
  · rw [ds_f rfl hh] at t1
    refine ⟨n + 1, s + 1, by omega, by omega, by omega, ?_⟩
    rw [su1_lodgerlaw14_DropBatch]
    unfold lodgerlaw14_DropBatch_s1
    rw [i64_in (s + 1) (by omega), i64_in (ef + 1) (by omega)]
    refine ct (decide_eq_true (by omega)) ?_
    refine ct rfl ?_
    refine bnd t1 ?_
    refine ct rfl ?_
    refine cf (goes_n4 _ _) ?_
    rw [if_neg Bool.false_ne_true, if_neg Bool.false_ne_true]
    rfl
  · rw [ds_t rfl hh] at t1
    have t2 := DStep_eq (o := { ob ad j k es with phase := 9, word := gt m (k / 32) }) fit ub ua j0 (show j ≤ 1000000 by omega) l3 (show 0 ≤ k / 32 by omega) (show k / 32 < _ by omega) (show 0 ≤ k % 32 by omega) (show k % 32 < 32 by omega) (show es.length ≤ 900000 by omega)
    refine ⟨n, s + 1 + 1, by omega, by omega, by omega, ?_⟩
    rw [su1_lodgerlaw14_DropBatch]
    unfold lodgerlaw14_DropBatch_s1
    rw [i64_in (s + 1) (by omega)]
    refine ct (decide_eq_true (by omega)) ?_
    refine ct rfl ?_
    refine bnd t1 ?_
    refine cf rfl ?_
    refine cf rfl ?_
    rw [su1_lodgerlaw14_DropBatch]
    unfold lodgerlaw14_DropBatch_s1
    rw [i64_in (s + 1 + 1) (by omega), i64_in (ef + 1) (by omega)]
    refine ct (decide_eq_true (by omega)) ?_
    refine cf rfl ?_
    refine ct rfl ?_
    rw [if_pos rfl, if_pos rfl]
    cases hf : ful (gt m (k / 32))
    · rw [ds_g (show (9 : Int) ≠ 8 by decide) rfl hf] at t2
      refine bnd t2 ?_
      refine ct rfl ?_
      refine cf (goes_n4 _ _) ?_
      rfl
    · rw [ds_m (show (9 : Int) ≠ 8 by decide) rfl hf] at t2
      refine bnd t2 ?_
      refine ct rfl ?_
      refine ct rfl ?_
      refine bnd (rGoes_eq fit.ok.blk ub ua j0 (show j ≤ 1000000 by omega)) ?_
      rfl
end
end
end Go.Lv.Ld
