import Derived.Test.YticclmplpmgikaaDoorLvA6
namespace Go.Lv.Ld
set_option linter.all false
open Go Go.Lv Go.IntWalk
set_option linter.unusedVariables false
set_option linter.unusedSimpArgs false
set_option maxRecDepth 100000

theorem last_eq {x : Int} (h0 : 0 ≤ x) (h1 : x ≤ 255) : lodgerlaw04_last x = some (D x.toNat) := by
  unfold lodgerlaw04_last
  have w : IntKind.wrap .u32 x = x := by simp (disch := omega) only [i64_in, u64_in, u32_in, u8_in, u16_in, Option.bind_some, Option.bind_none, Option.bind_eq_bind, ↓Bool.cond_eq_ite, decide_eq_true_eq, beq_iff_eq, bne_iff_ne, ne_eq, Bool.not_eq_true', Bool.not_eq_true, Bool.not_eq_false', Bool.not_not, decide_eq_false_iff_not, if_pos, if_neg, reduceIte, not_true_eq_false, not_false_eq_true, Bool.false_eq_true, Bool.true_eq_false, reduceCtorEq]
  have e : tx x.toNat = [48, 46, 48, 46, 48, 46] ++ D x.toNat := by
    rw [tx_of (a := x.toNat) (b3 := 0) (b2 := 0) (b1 := 0) (b0 := x.toNat) (by omega) (by omega) (by omega) (by omega), D_small (u := 0) (by omega)]; rfl
  rw [w, bnd (Text_eq (by unfold U32; omega)) rfl, e]
  refine ct ?_ ?_
  · simp only [decide_eq_true_eq, List.length_append, List.length_cons, List.length_nil]; omega
  · congr 1
    have hl : (([48, 46, 48, 46, 48, 46] : List UInt8) ++ D x.toNat).length = 6 + (D x.toNat).length := by simp; omega
    have hd : (([48, 46, 48, 46, 48, 46] : List UInt8) ++ D x.toNat).drop (Int.toNat 6) = D x.toNat := rfl
    rw [hd, hl]
    apply List.take_of_length_le
    omega
theorem or_plus {x y : Int} (k : Nat) (m : Nat) (hx : x = ((2 ^ k * m : Nat) : Int)) (h0 : 0 ≤ y) (h1 : y.toNat < 2 ^ k) (hs : x + y < 4294967296) : bit_or .u32 x y = x + y := by
  unfold bit_or
  show IntKind.wrap .u32 ((BitVec.ofInt 32 x ||| BitVec.ofInt 32 y).toNat : Nat) = _
  have hx0 : 0 ≤ x := by omega
  rw [BitVec.toNat_or, ofInt32 (by unfold U32; omega), ofInt32 (by unfold U32; omega)]
  have e3 : x.toNat ||| y.toNat = x.toNat + y.toNat := by
    rw [show x.toNat = 2 ^ k * m by omega, ← Nat.two_pow_add_eq_or_of_lt h1]
  rw [e3]
  have : IntKind.wrap .u32 ((x.toNat + y.toNat : Nat) : Int) = ((x.toNat + y.toNat : Nat) : Int) := by simp (disch := omega) only [i64_in, u64_in, u32_in, u8_in, u16_in, Option.bind_some, Option.bind_none, Option.bind_eq_bind, ↓Bool.cond_eq_ite, decide_eq_true_eq, beq_iff_eq, bne_iff_ne, ne_eq, Bool.not_eq_true', Bool.not_eq_true, Bool.not_eq_false', Bool.not_not, decide_eq_false_iff_not, if_pos, if_neg, reduceIte, not_true_eq_false, not_false_eq_true, Bool.false_eq_true, Bool.true_eq_false, reduceCtorEq]
  rw [this]; omega
theorem shlN {x : Int} {k : Int} (q : Nat) (hq : (2 : Int) ^ (min k.toNat 32) = q) (h0 : 0 ≤ x) (h1 : x * q < 4294967296) : shl .u32 (IntKind.wrap .u32 x) k = x * q := by
  have hq1 : (1 : Int) ≤ q := by
    have : (0 : Int) < 2 ^ (min k.toNat 32) := Int.pow_pos (by omega)
    omega
  have hx : x ≤ x * q := by
    have := Int.mul_le_mul_of_nonneg_left hq1 h0
    omega
  have w : IntKind.wrap .u32 x = x := by simp (disch := omega) only [i64_in, u64_in, u32_in, u8_in, u16_in, Option.bind_some, Option.bind_none, Option.bind_eq_bind, ↓Bool.cond_eq_ite, decide_eq_true_eq, beq_iff_eq, bne_iff_ne, ne_eq, Bool.not_eq_true', Bool.not_eq_true, Bool.not_eq_false', Bool.not_not, decide_eq_false_iff_not, if_pos, if_neg, reduceIte, not_true_eq_false, not_false_eq_true, Bool.false_eq_true, Bool.true_eq_false, reduceCtorEq]
  unfold shl
  show IntKind.wrap .u32 (IntKind.wrap .u32 x * 2 ^ (min k.toNat 32)) = _
  rw [w, hq]
  simp (disch := omega) only [i64_in, u64_in, u32_in, u8_in, u16_in, Option.bind_some, Option.bind_none, Option.bind_eq_bind, ↓Bool.cond_eq_ite, decide_eq_true_eq, beq_iff_eq, bne_iff_ne, ne_eq, Bool.not_eq_true', Bool.not_eq_true, Bool.not_eq_false', Bool.not_not, decide_eq_false_iff_not, if_pos, if_neg, reduceIte, not_true_eq_false, not_false_eq_true, Bool.false_eq_true, Bool.true_eq_false, reduceCtorEq]
theorem pure_AddrParts (a b c d : Int) (ha : WfV E (.int .u8) a) (hb : WfV E (.int .u8) b) (hc : WfV E (.int .u8) c) (hd : WfV E (.int .u8) d) : lodgerlaw04_AddrParts a b c d = some true := by
  have ⟨a0, a1⟩ := a_u8 ha
  have ⟨b0, b1⟩ := a_u8 hb
  have ⟨c0, c1⟩ := a_u8 hc
  have ⟨d0, d1⟩ := a_u8 hd
  have T : ∀ x : Int, 0 ≤ x → x ≤ 255 → addr_Text (IntKind.wrap .u32 x) = some (tx x.toNat) ∧ decide ((List.length (tx x.toNat) : Int) < 7) = false := by
    intro x h0 h1
    have w : IntKind.wrap .u32 x = x := by simp (disch := omega) only [i64_in, u64_in, u32_in, u8_in, u16_in, Option.bind_some, Option.bind_none, Option.bind_eq_bind, ↓Bool.cond_eq_ite, decide_eq_true_eq, beq_iff_eq, bne_iff_ne, ne_eq, Bool.not_eq_true', Bool.not_eq_true, Bool.not_eq_false', Bool.not_not, decide_eq_false_iff_not, if_pos, if_neg, reduceIte, not_true_eq_false, not_false_eq_true, Bool.false_eq_true, Bool.true_eq_false, reduceCtorEq]
    rw [w]
    refine ⟨Text_eq (by unfold U32; omega), ?_⟩
    have := (@tx_len x.toNat (by omega)).2
    simp only [decide_eq_false_iff_not]; omega
  obtain ⟨ta, la⟩ := T a a0 a1
  obtain ⟨tb, lb⟩ := T b b0 b1
  obtain ⟨tc, lc⟩ := T c c0 c1
  obtain ⟨td, ld⟩ := T d d0 d1
  have ka := @D_len a.toNat (by omega)
  have kb := @D_len b.toNat (by omega)
  have kc := @D_len c.toNat (by omega)
  have kd := @D_len d.toNat (by omega)
  obtain ⟨N, hN⟩ : ∃ N : Nat, N = a.toNat * 16777216 + b.toNat * 65536 + c.toNat * 256 + d.toNat := ⟨_, rfl⟩
  have hNl : N < 4294967296 := by omega
  have e : (((((D a.toNat ++ [46]) ++ D b.toNat) ++ [46]) ++ D c.toNat) ++ [46]) ++ D d.toNat = tx N := by
    rw [tx_of hN (by omega) (by omega) (by omega)]; simp
  unfold lodgerlaw04_AddrParts
  refine bnd awake_eq (cf rfl (bnd ta (cf la (bnd tb (cf lb (bnd tc (cf lc (bnd td (cf ld (bnd (last_eq a0 a1) (ct ?_ (bnd (last_eq b0 b1) (ct ?_ (ct ?_ (bnd (last_eq c0 c1) (ct ?_ (ct ?_ (bnd (last_eq d0 d1) (ct ?_ ?_)))))))))))))))))))
  rotate_right
  · rw [e]
    refine bnd (Parse_tx hNl) (ct rfl (ct ?_ (bnd (Text_eq (by unfold U32; simp; omega)) ?_)))
    · have s1 : shl .u32 (IntKind.wrap .u32 a) 24 = a * 16777216 := shlN 16777216 (by decide) a0 (by omega)
      have s2 : shl .u32 (IntKind.wrap .u32 b) 16 = b * 65536 := shlN 65536 (by decide) b0 (by omega)
      have s3 : shl .u32 (IntKind.wrap .u32 c) 8 = c * 256 := shlN 256 (by decide) c0 (by omega)
      have s4 : IntKind.wrap .u32 d = d := by simp (disch := omega) only [i64_in, u64_in, u32_in, u8_in, u16_in, Option.bind_some, Option.bind_none, Option.bind_eq_bind, ↓Bool.cond_eq_ite, decide_eq_true_eq, beq_iff_eq, bne_iff_ne, ne_eq, Bool.not_eq_true', Bool.not_eq_true, Bool.not_eq_false', Bool.not_not, decide_eq_false_iff_not, if_pos, if_neg, reduceIte, not_true_eq_false, not_false_eq_true, Bool.false_eq_true, Bool.true_eq_false, reduceCtorEq]
      have o1 : bit_or .u32 (a * 16777216) (b * 65536) = a * 16777216 + b * 65536 := or_plus 24 a.toNat (by omega) (by omega) (by omega) (by omega)
      have o2 : bit_or .u32 (a * 16777216 + b * 65536) (c * 256) = a * 16777216 + b * 65536 + c * 256 := or_plus 16 (a.toNat * 256 + b.toNat) (by omega) (by omega) (by omega) (by omega)
      have o3 : bit_or .u32 (a * 16777216 + b * 65536 + c * 256) d = a * 16777216 + b * 65536 + c * 256 + d := or_plus 8 (a.toNat * 65536 + b.toNat * 256 + c.toNat) (by omega) (by omega) (by omega) (by omega)
      rw [s1, s2, s3, s4, o1, o2, o3]
      simp only [beq_iff_eq]; omega
    · rw [Int.toNat_natCast]; simp
  all_goals (simp only [decide_eq_true_eq, List.length_append, List.length_singleton]; omega)

-- blocks
theorem Blocks_l (base p : Int) (hu : U32 base) (hp : 16 ≤ p) (hm : ∀ q, p ≤ q → q ≤ 32 → mayb ⟨base, q⟩ = true) : ∀ (d n : Nat) (i : Int), d < n → p ≤ i → i = 33 - (d : Int) → lodgerlaw04_AddrBlocks_l0 n base i = some true
  | 0, n + 1, i, hn, hi, hd => by
    rw [su0_lodgerlaw04_AddrBlocks]
    unfold lodgerlaw04_AddrBlocks_s0
    refine cf (by simp; omega) (bnd (May_eq (b := ⟨0, 15⟩) (by unfold U32; simp)) (ct ?_ (bnd (May_eq (b := ⟨0, 33⟩) (by unfold U32; simp)) ?_)))
    · unfold mayb; decide
    · rw [show mayb ⟨0, 33⟩ = false by unfold mayb; decide]; rfl
  | d + 1, n + 1, i, hn, hi, hd => by
    rw [su0_lodgerlaw04_AddrBlocks]
    unfold lodgerlaw04_AddrBlocks_s0
    refine ct (by simp; omega) (bnd (May_eq (b := ⟨base, i⟩) hu) (cf ?_ ?_))
    · rw [hm i hi (by omega)]; rfl
    · have : IntKind.wrap .i64 (i + 1) = i + 1 := by simp (disch := omega) only [i64_in, u64_in, u32_in, u8_in, u16_in, Option.bind_some, Option.bind_none, Option.bind_eq_bind, ↓Bool.cond_eq_ite, decide_eq_true_eq, beq_iff_eq, bne_iff_ne, ne_eq, Bool.not_eq_true', Bool.not_eq_true, Bool.not_eq_false', Bool.not_not, decide_eq_false_iff_not, if_pos, if_neg, reduceIte, not_true_eq_false, not_false_eq_true, Bool.false_eq_true, Bool.true_eq_false, reduceCtorEq]
      rw [this]
      exact Blocks_l base p hu hp hm d n (i + 1) (by omega) (by omega) (by omega)
theorem pure_AddrBlocks (a p0 : Int) (ha : WfV E u32 a) (hp : WfV E (.int .u8) p0) : lodgerlaw04_AddrBlocks a p0 = some true := by
  have wa := a_u32 ha
  have ⟨q0, q1⟩ := a_u8 hp
  have wa' := wa
  unfold U32 at wa'
  show lodgerlaw04_AddrBlocks_n big a p0 = _
  unfold lodgerlaw04_AddrBlocks_n lodgerlaw04_AddrBlocks_e
  have m1 : Int.tmod p0 17 = p0 % 17 := Int.tmod_eq_emod_of_nonneg q0
  obtain ⟨p, hp'⟩ : ∃ p : Int, p = 16 + p0 % 17 := ⟨_, rfl⟩
  have p1 : 16 ≤ p := by omega
  have p2 : p ≤ 32 := by omega
  have w1 : IntKind.wrap .i64 (16 + IntKind.wrap .i64 (Int.tmod p0 17)) = p := by rw [m1]; simp (disch := omega) only [i64_in, u64_in, u32_in, u8_in, u16_in, Option.bind_some, Option.bind_none, Option.bind_eq_bind, ↓Bool.cond_eq_ite, decide_eq_true_eq, beq_iff_eq, bne_iff_ne, ne_eq, Bool.not_eq_true', Bool.not_eq_true, Bool.not_eq_false', Bool.not_not, decide_eq_false_iff_not, if_pos, if_neg, reduceIte, not_true_eq_false, not_false_eq_true, Bool.false_eq_true, Bool.true_eq_false, reduceCtorEq]; omega
  obtain ⟨k, hk⟩ : ∃ k : Nat, 32 - p = k := ⟨(32 - p).toNat, by omega⟩
  have w2 : IntKind.wrap .u64 (IntKind.wrap .i64 (32 - p)) = (k : Int) := by simp (disch := omega) only [hk, i64_in, u64_in, u32_in, u8_in, u16_in, Option.bind_some, Option.bind_none, Option.bind_eq_bind, ↓Bool.cond_eq_ite, decide_eq_true_eq, beq_iff_eq, bne_iff_ne, ne_eq, Bool.not_eq_true', Bool.not_eq_true, Bool.not_eq_false', Bool.not_not, decide_eq_false_iff_not, if_pos, if_neg, reduceIte, not_true_eq_false, not_false_eq_true, Bool.false_eq_true, Bool.true_eq_false, reduceCtorEq]
  have w3 : IntKind.wrap .u64 a = a := by simp (disch := omega) only [i64_in, u64_in, u32_in, u8_in, u16_in, Option.bind_some, Option.bind_none, Option.bind_eq_bind, ↓Bool.cond_eq_ite, decide_eq_true_eq, beq_iff_eq, bne_iff_ne, ne_eq, Bool.not_eq_true', Bool.not_eq_true, Bool.not_eq_false', Bool.not_not, decide_eq_false_iff_not, if_pos, if_neg, reduceIte, not_true_eq_false, not_false_eq_true, Bool.false_eq_true, Bool.true_eq_false, reduceCtorEq]
  obtain ⟨pk1, pk2⟩ := pw (k := k) (by omega)
  have hd0 : 0 ≤ a / 2 ^ k := Int.ediv_nonneg (by omega) (by omega)
  have hdm := Int.emod_add_mul_ediv a (2 ^ k)
  have hm0 := Int.emod_nonneg a (show (2 : Int) ^ k ≠ 0 by omega)
  have hcomm : (2 : Int) ^ k * (a / 2 ^ k) = a / 2 ^ k * 2 ^ k := Int.mul_comm _ _
  have w4 : shr .u64 a (k : Int) = a / 2 ^ k := by
    show a.fdiv (2 ^ (min (k : Int).toNat 64)) = _
    rw [Int.toNat_natCast, show min k 64 = k by omega]
    exact Int.fdiv_eq_ediv_of_nonneg _ (by omega)
  have hle : a / 2 ^ k * 2 ^ k ≤ a := by omega
  have hge : 0 ≤ a / 2 ^ k * 2 ^ k := Int.mul_nonneg hd0 (by omega)
  have w5 : IntKind.wrap .u32 (shl .u64 (a / 2 ^ k) (k : Int)) = a / 2 ^ k * 2 ^ k := by
    unfold shl
    show IntKind.wrap .u32 (IntKind.wrap .u64 (a / 2 ^ k * 2 ^ (min (k : Int).toNat 64))) = _
    rw [Int.toNat_natCast, show min k 64 = k by omega]
    generalize a / 2 ^ k * 2 ^ k = z at hle hge
    simp (disch := omega) only [i64_in, u64_in, u32_in, u8_in, u16_in, Option.bind_some, Option.bind_none, Option.bind_eq_bind, ↓Bool.cond_eq_ite, decide_eq_true_eq, beq_iff_eq, bne_iff_ne, ne_eq, Bool.not_eq_true', Bool.not_eq_true, Bool.not_eq_false', Bool.not_not, decide_eq_false_iff_not, if_pos, if_neg, reduceIte, not_true_eq_false, not_false_eq_true, Bool.false_eq_true, Bool.true_eq_false, reduceCtorEq]
  rw [w1, w2, w3, w4, w5]
  obtain ⟨base, hbase⟩ : ∃ z, z = a / 2 ^ k * 2 ^ k := ⟨_, rfl⟩
  rw [← hbase] at hle hge hcomm ⊢
  have ub : U32 base := by unfold U32; omega
  have hm : ∀ q, p ≤ q → q ≤ 32 → mayb ⟨base, q⟩ = true := by
    intro q h1 h2
    unfold mayb
    simp only [decide_eq_true_eq]
    refine ⟨by omega, h2, ?_⟩
    have e : k = (32 - q).toNat + (q - p).toNat := by omega
    rw [hbase]
    have e2 : (2 : Int) ^ k = 2 ^ (32 - q).toNat * 2 ^ (q - p).toNat := by rw [← Int.pow_add, ← e]
    have e3 : a / 2 ^ k * 2 ^ k = 2 ^ (32 - q).toNat * (a / 2 ^ k * 2 ^ (q - p).toNat) := by
      conv => lhs; rhs; rw [e2]
      ac_rfl
    rw [e3]
    exact Int.mul_emod_right _ _
  have hap : mayb ⟨a, p⟩ = (a == base) := by
    rw [Bool.eq_iff_iff]
    unfold mayb
    simp only [decide_eq_true_eq, beq_iff_eq]
    rw [hk, Int.toNat_natCast]
    constructor
    · intro h; omega
    · intro h; exact ⟨p1, p2, by omega⟩
  refine bnd awake_eq (cf rfl (cf (by simp) (cf (by simp) (bnd (May_eq (b := ⟨base, p⟩) ub) (cf ?_ (bnd (May_eq (b := ⟨a, p⟩) wa) (cf ?_ ?_)))))))
  · rw [hm p (by omega) p2]; rfl
  · rw [hap]; simp
  · exact Blocks_l base p ub p1 hm (33 - p).toNat big p (by unfold big; omega) (by omega) (by omega)
end Go.Lv.Ld
