import Derived.Test.YtmmfioeadefceaaLvC2
namespace Go.Lv.Ld
set_option linter.all false
noncomputable section
open Go Go.Lv Go.IntWalk

theorem pt_set {l : List Int} {i w : Int} (h : 0 ≤ i) : l.set i.toNat w = pt l i w := by unfold pt; rw [if_pos h]
def msk (k : Int) : Int := 2 ^ k.toNat - 1
theorem msk_u {k : Int} (h0 : 0 ≤ k) (h : k ≤ 63) : U64 (msk k) := by
  have h1 := @pow_64 k (by omega)
  have h2 := pow_pos' k
  unfold msk U64; omega
theorem Mask_eq {k : Int} (h0 : 0 ≤ k) (h : k ≤ 63) : bits_Mask k = some (msk k) := by
  unfold bits_Mask
  have e := shl_u h0 (show k < 64 by omega)
  have hc : ((2 ^ k.toNat : Nat) : Int) = (2 : Int) ^ k.toNat := by norm_cast
  rw [hc] at e
  have hu := msk_u h0 h
  unfold msk U64 at hu
  have e2 : IntKind.u64.wrap k = k := u64_in _ (by omega)
  rw [e2, e, u64_in _ hu]
  refine cf (decide_eq_false (by omega)) ?_
  rfl
theorem Mask64 : bits_Mask 64 = some 18446744073709551615 := by kernel_rfl
theorem hs_msk {k i : Int} (h0 : 0 ≤ k) (h : k ≤ 63) (hi : 0 ≤ i) : hs (msk k) i = decide (i < k) := by
  have hp : (2 : Nat) ^ k.toNat ≥ 1 := Nat.one_le_two_pow
  have e : (msk k).toNat = 2 ^ k.toNat - 1 := by
    unfold msk
    have hc : ((2 ^ k.toNat : Nat) : Int) = (2 : Int) ^ k.toNat := by norm_cast
    omega
  rw [hs_eq, e, mask_tb, decide_eq_decide]
  omega
theorem andNot_facts {a b : Int} (ha : U64 a) (hb : U64 b) : U64 (bit_andNot .u64 a b) ∧ ∀ i : Int, 0 ≤ i → i < 64 → hs (bit_andNot .u64 a b) i = (hs a i && !hs b i) := by
  rw [andNot_u ha hb]
  have hle := @Nat.and_le_left a.toNat (18446744073709551615 ^^^ b.toNat)
  refine ⟨by unfold U64 at *; omega, fun i h0 h => ?_⟩
  rw [hs_eq, hs_eq, hs_eq, Int.toNat_natCast, Nat.testBit_and, Nat.testBit_xor, all_tb]
  have : i.toNat < 64 := by omega
  rw [decide_eq_true this]
  cases a.toNat.testBit i.toNat <;> cases b.toNat.testBit i.toNat <;> rfl
def heldB (c : Conf) (o : Int) : Bool := decide (o ∈ c.held)
theorem drop_cons {l : List Int} {i : Int} (h0 : 0 ≤ i) (h : i < (l.length : Int)) : l.drop i.toNat = gt l i :: l.drop (i + 1).toNat := by
  rw [List.drop_eq_getElem_cons (show i.toNat < l.length by omega)]
  have e := get?_gt h0 h
  rw [List.getElem?_eq_getElem (show i.toNat < l.length by omega), Option.some.injEq] at e
  rw [e, show (i + 1).toNat = i.toNat + 1 by omega]
theorem New_l (c : Conf) (ok : OKc c) (leaf : Int) (hl : 0 ≤ leaf) : ∀ (d n : Nat) (j w : Int), d < n → 0 ≤ j → ((c.held.length : Int) - j).toNat = d → j ≤ c.held.length → U64 w →
    ∃ r, word_New_l0 n leaf w c.held c.held.length j = some r ∧ U64 r ∧ ∀ b : Int, 0 ≤ b → b < 32 → hs r b = (hs w b || decide (32 * leaf + b ∈ c.held.drop j.toNat)) := by
  have few := ok.few
  have hm := many_b ok.blk
  intro d
  induction d with
  | zero =>
    intro n j w hn h1 h2 h3 hw
    obtain ⟨m, rfl⟩ : ∃ m, n = m + 1 := ⟨n - 1, by omega⟩
    rw [su0_word_New]
    unfold word_New_s0
    refine ⟨w, cf (decide_eq_false (by omega)) rfl, hw, fun b h0 h => ?_⟩
    rw [List.drop_eq_nil_of_le (by omega)]
    simp
  | succ d ih =>
    intro n j w hn h1 h2 h3 hw
    obtain ⟨m, rfl⟩ : ∃ m, n = m + 1 := ⟨n - 1, by omega⟩
    have hj : j < (c.held.length : Int) := by omega
    have hh := ok.held j h1 hj
    rw [su0_word_New]
    unfold word_New_s0
    rw [i64_in (j + 1) (by omega)]
    have ih := fun w' hw' => ih m (j + 1) w' (by omega) (by omega) (by omega) (by omega) hw'
    by_cases q : gt c.held j / 32 = leaf
    · obtain ⟨r, e1, e2, e3⟩ := ih (st w (gt c.held j % 32)) (st_u hw (by omega) (by omega))
      refine ⟨r, ?_, e2, fun b h0 h => ?_⟩
      · refine ct (decide_eq_true hj) ?_
        refine bnd (geti_eq h1 hj) ?_
        refine bnd (Leaf_eq hh.1 (by omega)) ?_
        refine ct (beq_iff_eq.2 q) ?_
        exact bnd (Set_eq hw (by omega) (by omega)) e1
      · rw [e3 b h0 h, hs_st (by omega) h0, drop_cons h1 hj]
        rw [Bool.eq_iff_iff]
        simp only [Bool.or_eq_true, decide_eq_true_eq, List.mem_cons]
        constructor
        · rintro ((a | a) | a)
          · exact .inl a
          · exact .inr (.inl (by omega))
          · exact .inr (.inr a)
        · rintro (a | a | a)
          · exact .inl (.inl a)
          · exact .inl (.inr (by omega))
          · exact .inr a
    · obtain ⟨r, e1, e2, e3⟩ := ih w hw
      refine ⟨r, ?_, e2, fun b h0 h => ?_⟩
      · refine ct (decide_eq_true hj) ?_
        refine bnd (geti_eq h1 hj) ?_
        refine bnd (Leaf_eq hh.1 (by omega)) ?_
        exact cf (beq_eq_false_iff_ne.2 q) e1
      · rw [e3 b h0 h, drop_cons h1 hj]
        rw [Bool.eq_iff_iff]
        simp only [Bool.or_eq_true, decide_eq_true_eq, List.mem_cons]
        constructor
        · rintro (a | a)
          · exact .inl a
          · exact .inr (.inr a)
        · rintro (a | a | a)
          · exact .inl a
          · exact absurd a (by omega)
          · exact .inr a
/-- A leaf's first word. -/
def NewP (c : Conf) (leaf w : Int) : Prop := U64 w ∧ ∀ b : Int, 0 ≤ b → b < 32 → hs w b = (decide (32 * leaf + b ≥ many c.block) || heldB c (32 * leaf + b))
theorem New_eq {c : Conf} (ok : OKc c) {leaf : Int} (h0 : 0 ≤ leaf) (h1 : leaf < leaves (many c.block)) : ∃ w, word_New c leaf = some w ∧ NewP c leaf w := by
  have hm := many_b ok.blk
  have hL := leaves_b hm.1 hm.2
  unfold word_New word_New_n word_New_e
  have ew : place_Width (many c.block) leaf = some (min 32 (many c.block - 32 * leaf)) := by
    unfold place_Width mm
    rw [i64_in (leaf * 32) (by omega), i64_in _ (by omega)]
    simp only [Bool.false_eq_true, if_false]
    congr 1
    split <;> omega
  generalize hW : min 32 (many c.block - 32 * leaf) = W at ew
  have w0 : 0 ≤ W := by omega
  have w1 : W ≤ 63 := by omega
  obtain ⟨a1, a2⟩ := andNot_facts (msk_u (k := 32) (by omega) (by omega)) (msk_u w0 w1)
  obtain ⟨r, e1, e2, e3⟩ := New_l c ok leaf h0 c.held.length big 0 (bit_andNot .u64 (msk 32) (msk W)) (big_lt (by have := ok.few; omega)) (by omega) (by omega) (by omega) a1
  refine ⟨r, ?_, e2, fun b b0 b1 => ?_⟩
  · refine bnd (Mask_eq (by omega) (by omega)) ?_
    refine bnd (Many_eq ok.blk) ?_
    refine bnd ew ?_
    refine bnd (Mask_eq w0 w1) ?_
    exact e1
  · rw [e3 b b0 b1, a2 b b0 (by omega), hs_msk (by omega) (by omega) b0, hs_msk w0 w1 b0, Bool.eq_iff_iff]
    unfold heldB
    simp only [Int.toNat_zero, List.drop_zero, Bool.or_eq_true, Bool.and_eq_true, decide_eq_true_eq, Bool.not_eq_true', decide_eq_false_iff_not]
    constructor
    · rintro (⟨_, a⟩ | a)
      · exact .inl (by omega)
      · exact .inr a
    · rintro (a | a)
      · exact .inl ⟨b1, by omega⟩
      · exact .inr a
theorem Cells_l1 (c : Conf) (ok : OKc c) : ∀ (d n : Nat) (k : Int) (m : List Int), d < n → 0 ≤ k → (leaves (many c.block) - k).toNat = d → k ≤ leaves (many c.block) → (m.length : Int) = cellsN (many c.block) → (∀ x, x ∈ m → U64 x) →
    ∃ r, word_Cells_l1 n (many c.block) (rootc c) (leaves (many c.block)) k c m = some r ∧ (r.length : Int) = cellsN (many c.block) ∧ (∀ x, x ∈ r → U64 x) ∧ (∀ j, 0 ≤ j → j < k → gt r j = gt m j) ∧ ∀ j, k ≤ j → j < leaves (many c.block) → NewP c j (gt r j) := by
  have hm := many_b ok.blk
  have hL := leaves_b hm.1 hm.2
  have hT := tops_b hm.1 hm.2
  intro d
  induction d with
  | zero =>
    intro n k m hn h1 h2 h3 hl hu
    obtain ⟨q, rfl⟩ : ∃ m, n = m + 1 := ⟨n - 1, by omega⟩
    rw [su1_word_Cells]
    unfold word_Cells_s1
    exact ⟨m, cf (decide_eq_false (by omega)) rfl, hl, hu, fun _ _ _ => rfl, fun j q1 q2 => by omega⟩
  | succ d ih =>
    intro n k m hn h1 h2 h3 hl hu
    obtain ⟨q, rfl⟩ : ∃ m, n = m + 1 := ⟨n - 1, by omega⟩
    have hk : k < leaves (many c.block) := by omega
    unfold cellsN at hl
    have hkm : k < (m.length : Int) := by omega
    obtain ⟨w, w1, w2, w3⟩ := New_eq ok h1 hk
    rw [su1_word_Cells]
    unfold word_Cells_s1
    rw [i64_in (k + 1) (by omega)]
    have ih := fun m' hl' hu' => ih q (k + 1) m' (by omega) (by omega) (by omega) (by omega) hl' hu'
    have l1 : (pt m k w).length = m.length := pt_len _ _ _
    have u1 := pt_u (i := k) U64 hu w2
    have g1 : gt (pt m k w) k = w := by rw [gt_pt h1 hkm h1, if_pos rfl]
    simp only [pt_set h1]
    have x1 := get?_gt (l := pt m k w) h1 (by omega)
    rw [g1] at x1
    cases hf : ful w
    · -- not full
      have t0 : 0 ≤ leaves (many c.block) + k / 64 := by omega
      have t1 : leaves (many c.block) + k / 64 < (m.length : Int) := by omega
      have r0 : 0 ≤ rootc c := by unfold rootc; omega
      have r1 : rootc c < (m.length : Int) := by unfold rootc; omega
      have ut := u1 _ (gt_mem (l := pt m k w) (i := leaves (many c.block) + k / 64) t0 (by omega))
      have ur := u1 _ (gt_mem (l := pt m k w) (i := rootc c) r0 (by omega))
      have c1 := @cl_u _ (k % 64) ut
      have c2 := @cl_u _ (k / 64) ur
      have l2 : (pt (pt m k w) (leaves (many c.block) + k / 64) (cl (gt (pt m k w) (leaves (many c.block) + k / 64)) (k % 64))).length = m.length := by rw [pt_len, pt_len]
      have u2 := pt_u (i := leaves (many c.block) + k / 64) U64 u1 c1
      have l3 : (pt (pt (pt m k w) (leaves (many c.block) + k / 64) (cl (gt (pt m k w) (leaves (many c.block) + k / 64)) (k % 64))) (rootc c) (cl (gt (pt m k w) (rootc c)) (k / 64))).length = m.length := by rw [pt_len, pt_len, pt_len]
      have u3 := pt_u (i := rootc c) U64 u2 c2
      obtain ⟨r, e1, e2, e3, e4, e5⟩ := ih _ (by rw [l3]; unfold cellsN; omega) u3
      have gk : ∀ j, 0 ≤ j → j < leaves (many c.block) → gt (pt (pt (pt m k w) (leaves (many c.block) + k / 64) (cl (gt (pt m k w) (leaves (many c.block) + k / 64)) (k % 64))) (rootc c) (cl (gt (pt m k w) (rootc c)) (k / 64))) j = gt (pt m k w) j := fun j q1 q2 => by
        rw [gt_pt q1 (by omega) r0, if_neg (by unfold rootc; omega), gt_pt q1 (by omega) t0, if_neg (by omega)]
      refine ⟨r, ?_, e2, e3, fun j q1 q2 => ?_, fun j q1 q2 => ?_⟩
      · refine ct (decide_eq_true hk) ?_
        refine bnd w1 ?_
        refine ct (decide_eq_true ⟨h1, hkm⟩) ?_
        refine bnd (get?_gt h1 hkm) ?_
        refine ct (decide_eq_true ⟨h1, by omega⟩) ?_
        refine bnd x1 ?_
        refine bnd ((Full_eq w2).trans (congrArg some hf)) ?_
        refine cf rfl ?_
        refine bnd (Top_eq hm.1 hm.2 h1 (by omega)) ?_
        refine bnd (Root_eq hm.1 hm.2 h1 (by omega)) ?_
        refine ct (decide_eq_true ⟨t0, show leaves (many c.block) + k / 64 < ((pt m k w).length : Int) by omega⟩) ?_
        refine bnd (get?_gt t0 (show leaves (many c.block) + k / 64 < ((pt m k w).length : Int) by omega)) ?_
        refine bnd (Clear_eq ut (show 0 ≤ k % 64 by omega) (by omega)) ?_
        refine ct (decide_eq_true ⟨r0, show rootc c < ((pt m k w).length : Int) by omega⟩) ?_
        refine bnd (get?_gt r0 (show rootc c < ((pt m k w).length : Int) by omega)) ?_
        refine bnd (Clear_eq ur (show 0 ≤ k / 64 by omega) (by omega)) ?_
        refine ct (decide_eq_true ⟨t0, show leaves (many c.block) + k / 64 < ((pt m k w).length : Int) by omega⟩) ?_
        refine bnd (get?_gt t0 (show leaves (many c.block) + k / 64 < ((pt m k w).length : Int) by omega)) ?_
        simp only [pt_set t0, pt_set r0]
        refine ct (decide_eq_true ⟨r0, by omega⟩) ?_
        exact bnd (get?_gt r0 (by omega)) e1
      · rw [e4 j q1 (by omega), gk j q1 (by omega), gt_pt q1 (by omega) h1, if_neg (by omega)]
      · by_cases ej : j = k
        · subst ej
          rw [e4 j h1 (by omega), gk j h1 hk, g1]
          exact ⟨w2, w3⟩
        · exact e5 j (by omega) q2
    · obtain ⟨r, e1, e2, e3, e4, e5⟩ := ih (pt m k w) (by rw [l1]; unfold cellsN; omega) u1
      refine ⟨r, ?_, e2, e3, fun j q1 q2 => ?_, fun j q1 q2 => ?_⟩
      · refine ct (decide_eq_true hk) ?_
        refine bnd w1 ?_
        refine ct (decide_eq_true ⟨h1, hkm⟩) ?_
        refine bnd (get?_gt h1 hkm) ?_
        refine ct (decide_eq_true ⟨h1, by omega⟩) ?_
        refine bnd x1 ?_
        refine bnd ((Full_eq w2).trans (congrArg some hf)) ?_
        exact ct rfl e1
      · rw [e4 j q1 (by omega), gt_pt q1 (by omega) h1, if_neg (by omega)]
      · by_cases ej : j = k
        · subst ej
          rw [e4 j h1 (by omega), g1]
          exact ⟨w2, w3⟩
        · exact e5 j (by omega) q2
theorem Cells_l0 (c : Conf) (ok : OKc c) : ∀ (d n : Nat) (k : Int) (m : List Int), d + 5000 < n → 0 ≤ k → (tops (many c.block) - k).toNat = d → k ≤ tops (many c.block) → (m.length : Int) = cellsN (many c.block) → (∀ x, x ∈ m → U64 x) →
    ∃ r, word_Cells_l0 n (many c.block) (tops (many c.block)) k c m = some r ∧ (r.length : Int) = cellsN (many c.block) ∧ (∀ x, x ∈ r → U64 x) ∧ ∀ j, 0 ≤ j → j < leaves (many c.block) → NewP c j (gt r j) := by
  have hm := many_b ok.blk
  have hL := leaves_b hm.1 hm.2
  have hT := tops_b hm.1 hm.2
  have uA : U64 18446744073709551615 := by unfold U64; omega
  intro d
  induction d with
  | zero =>
    intro n k m hn h1 h2 h3 hl hu
    obtain ⟨q, rfl⟩ : ∃ m, n = m + 1 := ⟨n - 1, by omega⟩
    have hl' := hl
    unfold cellsN at hl'
    have r0 : 0 ≤ rootc c := by unfold rootc; omega
    have r1 : rootc c < (m.length : Int) := by unfold rootc; omega
    have er : IntKind.i64.wrap (cellsN (many c.block) - 1) = rootc c := by unfold cellsN rootc; rw [i64_in _ (by omega)]; omega
    obtain ⟨r, e1, e2, e3, e4, e5⟩ := Cells_l1 c ok (leaves (many c.block)).toNat q 0 (pt m (rootc c) 18446744073709551615) (by omega) (by omega) (by omega) (by omega) (by rw [pt_len]; exact hl) (pt_u U64 hu uA)
    refine ⟨r, ?_, e2, e3, fun j q1 q2 => e5 j q1 q2⟩
    rw [su0_word_Cells]
    unfold word_Cells_s0
    refine cf (decide_eq_false (by omega)) ?_
    refine bnd (Cells_eq hm.1 hm.2) ?_
    refine bnd Mask64 ?_
    rw [er, pt_set r0]
    refine ct (decide_eq_true ⟨r0, r1⟩) ?_
    refine bnd (get?_gt r0 r1) ?_
    exact bnd (Leaves_eq (by omega) hm.2) e1
  | succ d ih =>
    intro n k m hn h1 h2 h3 hl hu
    obtain ⟨q, rfl⟩ : ∃ m, n = m + 1 := ⟨n - 1, by omega⟩
    have hl' := hl
    unfold cellsN at hl'
    obtain ⟨r, e1, e2, e3, e4⟩ := ih q (k + 1) (pt m (leaves (many c.block) + k) 18446744073709551615) (by omega) (by omega) (by omega) (by omega) (by rw [pt_len]; exact hl) (pt_u U64 hu uA)
    refine ⟨r, ?_, e2, e3, e4⟩
    rw [su0_word_Cells]
    unfold word_Cells_s0
    refine ct (decide_eq_true (by omega)) ?_
    refine bnd (Leaves_eq (by omega) hm.2) ?_
    refine bnd Mask64 ?_
    rw [i64_in (leaves (many c.block) + k) (by omega), i64_in (k + 1) (by omega), pt_set (show 0 ≤ leaves (many c.block) + k by omega)]
    refine ct (decide_eq_true ⟨by omega, by omega⟩) ?_
    exact bnd (get?_gt (by omega) (by omega)) e1
/-- The first cells. -/
theorem wCells_eq {c : Conf} (ok : OKc c) (few : many c.block ≤ 4096) : ∃ r, word_Cells c = some r ∧ Fit c r ∧ ∀ j, 0 ≤ j → j < leaves (many c.block) → NewP c j (gt r j) := by
  have hm := many_b ok.blk
  have hL := leaves_b hm.1 hm.2
  have hT := tops_b hm.1 hm.2
  have hcn : 0 ≤ cellsN (many c.block) ∧ cellsN (many c.block) ≤ 5000 := by unfold cellsN; omega
  unfold word_Cells word_Cells_n word_Cells_e
  obtain ⟨r, e1, e2, e3, e4⟩ := Cells_l0 c ok (tops (many c.block)).toNat big 0 (List.replicate (Int.toNat (cellsN (many c.block))) (0 : Int)) (big_lt (by omega)) (by omega) (by omega) (by omega) (by simp; omega) (fun x hx => by rw [(List.mem_replicate.1 hx).2]; unfold U64; omega)
  refine ⟨r, ?_, ⟨ok, few, e2, e3⟩, e4⟩
  refine bnd (Many_eq ok.blk) ?_
  refine bnd (Cells_eq hm.1 hm.2) ?_
  have a1 : ieq (cellsN (many c.block)) (cellsN (many c.block)) = true := by simp [ieq]
  have a2 : okLen (cellsN (many c.block)) = true := by unfold okLen maxList; exact decide_eq_true ⟨hcn.1, by omega⟩
  refine ct (by rw [a1, a2]; rfl) ?_
  exact bnd (Tops_eq hm.1 hm.2) e1
end
end Go.Lv.Ld
