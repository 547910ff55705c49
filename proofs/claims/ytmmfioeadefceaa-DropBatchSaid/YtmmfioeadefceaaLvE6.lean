import Derived.Test.YtmmfioeadefceaaLvE5
namespace Go.Lv.Ld
set_option linter.all false
noncomputable section
open Go Go.Lv Go.IntWalk
def adl (c : Conf) (offs : List Int) : List Int := offs.map fun x => ad c (x % many c.block)
theorem gt_map {f : Int → Int} {l : List Int} {i : Int} (h0 : 0 ≤ i) (h : i < (l.length : Int)) : gt (l.map f) i = f (gt l i) := by
  have a := get?_gt (l := l.map f) h0 (by simpa using h)
  rw [List.getElem?_map, get?_gt h0 h] at a
  simpa using a.symm
theorem DB_l0 {c : Conf} {offs l : List Int} (ub : U32 c.block.base) (fit : Fit c l) (ho : ∀ x, x ∈ offs → 0 ≤ x ∧ x ≤ 65535) (few : offs.length ≤ 20) (one : 0 < offs.length) : ∀ (d n : Nat) (i : Int) (acc : List Int), d + 1000 < n → 0 ≤ i → ((offs.length : Int) - i).toNat = d → i ≤ offs.length → acc = (adl c offs).take i.toNat → lodgerlaw14_DropBatch_l0 n l offs (many c.block) i c acc = some true := by
  have hb := many_b fit.ok.blk
  have hs := fit.small
  have hal : (adl c offs).length = offs.length := by simp [adl]
  have e1 : ∀ j, 0 ≤ j → j < (offs.length : Int) → (IntKind.i64.wrap (gt offs j)).tmod (many c.block) = gt offs j % many c.block := fun j j0 j1 => by
    have := ho _ (gt_mem j0 j1)
    rw [i64_in _ (by omega), Int.tmod_eq_emod_of_nonneg this.1]
  have kb : ∀ j, 0 ≤ gt offs j % many c.block ∧ gt offs j % many c.block < many c.block := fun j => ⟨Int.emod_nonneg _ (by omega), Int.emod_lt_of_pos _ (by omega)⟩
  have hn0 : (many c.block == 0) = false := beq_eq_false_iff_ne.2 (by omega)
  intro d
  induction d with
  | zero =>
    intro n i acc hn h1 h2 h3 he
    obtain ⟨q, rfl⟩ : ∃ m, n = m + 1 := ⟨n - 1, by omega⟩
    rw [List.take_of_length_le (by omega)] at he
    subst he
    have hx := kb 0
    rw [su0_lodgerlaw14_DropBatch]
    unfold lodgerlaw14_DropBatch_s0
    refine cf (decide_eq_false (by omega)) ?_
    refine bnd (geti_eq (Int.le_refl 0) (by omega)) ?_
    refine cf hn0 ?_
    refine ct (decide_eq_true hs) ?_
    rw [e1 0 (Int.le_refl 0) (by omega), i64_quo _ 32 (by omega), Int.tmod_eq_emod_of_nonneg hx.1, ← gt_map (f := fun x => x % many c.block) (Int.le_refl 0) (by omega)]
    refine DB_l1 ub (as := adl c offs) (w := l) (fun x hx => ?_) few hal (fun j j0 j1 => ?_) (offs.length - 1) q 0 0 l [] (by omega) (Int.le_refl 0) (by omega) (by omega) (Int.le_refl 0) (by omega) rfl fit fun n' o' g1 g2 => ?_
    · obtain ⟨y, _, rfl⟩ := List.mem_map.1 hx
      exact (off_ad fit.ok ub (Int.emod_nonneg _ (by omega)) (Int.emod_lt_of_pos _ (by omega))).2
    · have := kb j
      unfold kl adl
      rw [gt_map j0 j1, gt_map j0 j1]
      exact ⟨this.1, this.2, (off_ad fit.ok ub this.1 this.2).1⟩
    · refine DB_l2 c offs ho few _ o' ?_ offs.length n' 0 l (by omega) (Int.le_refl 0) (by omega) (by omega) fit ?_ rfl
      · have := (bws_fit ((kl c offs).drop 0) fit).small
        exact Nat.le_trans (by have := (bws_fit ((kl c offs).drop (0 : Int).toNat) fit).len; have := fit.len; omega) (show l.length ≤ 100000 by have := fit.len; have := fit.few; have := leaves_b hb.1 hb.2; have := tops_b hb.1 hb.2; unfold cellsN at *; omega)
      · rw [g2]; rfl
  | succ d ih =>
    intro n i acc hn h1 h2 h3 he
    obtain ⟨q, rfl⟩ : ∃ m, n = m + 1 := ⟨n - 1, by omega⟩
    have hi : i < (offs.length : Int) := by omega
    have hla : acc.length ≤ 100 := by rw [he, List.length_take]; omega
    rw [su0_lodgerlaw14_DropBatch]
    unfold lodgerlaw14_DropBatch_s0
    rw [i64_in (i + 1) (by omega)]
    refine ct (decide_eq_true hi) ?_
    refine bnd (geti_eq h1 hi) ?_
    refine cf hn0 ?_
    refine ct (decide_eq_true (by unfold maxList; simp only [List.length_cons, List.length_nil]; omega)) ?_
    rw [e1 i h1 hi, ad_eq]
    refine ih q (i + 1) _ (by omega) (by omega) (by omega) (by omega) ?_
    rw [show (i + 1).toNat = i.toNat + 1 by omega, List.take_succ, ← he, get?_gt h1 (by omega)]
    unfold adl
    rw [gt_map h1 hi]
    rfl
theorem pure_DropBatch (c : Conf) (l offs : List Int) (hc : WfV E (.st 1) c) (hl : WfV E (.slice u64) l) (ho : WfV E (.slice (.int .u16)) offs) : lodgerlaw14_DropBatch c l offs = some true := by
  have wc := v_conf hc
  obtain ⟨b, e, hb⟩ := rFits_eq wc (v_u64s hl)
  have wo := (v_slice (k := .u16) ho).2
  unfold lodgerlaw14_DropBatch lodgerlaw14_DropBatch_n lodgerlaw14_DropBatch_e
  refine bnd awake14 ?_
  refine cf rfl ?_
  refine bnd e ?_
  cases b
  · exact ct rfl (bnd awake14 rfl)
  have fit := hb rfl
  refine cf rfl ?_
  by_cases q : (offs.length : Int) > 20
  · exact ct (decide_eq_true q) (bnd awake14 rfl)
  refine cf (decide_eq_false q) ?_
  by_cases q2 : (offs.length : Int) = 0
  · exact ct (beq_iff_eq.2 q2) (bnd awake14 rfl)
  refine cf (beq_eq_false_iff_ne.2 q2) ?_
  refine bnd (rMany_eq fit.ok.blk) ?_
  exact DB_l0 wc.block.base fit (fun x hx => wo x hx) (by omega) (by omega) offs.length big 0 [] (by have : big = 4611686018427387904 := rfl; omega) (Int.le_refl 0) (by omega) (by omega) rfl
end
end Go.Lv.Ld
