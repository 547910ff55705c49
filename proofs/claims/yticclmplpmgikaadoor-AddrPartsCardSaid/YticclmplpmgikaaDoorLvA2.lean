import Derived.Test.YticclmplpmgikaaDoorLvA1
namespace Go.Lv.Ld
set_option linter.all false
open Go Go.Lv Go.IntWalk
set_option linter.unusedVariables false
set_option linter.unusedSimpArgs false
set_option maxRecDepth 100000

def U32 (a : Int) : Prop := 0 ≤ a ∧ a < 4294967296
theorem ofInt32 {a : Int} (ha : U32 a) : (BitVec.ofInt 32 a).toNat = a.toNat := by
  unfold U32 at ha
  rw [BitVec.toNat_ofInt]
  have : a % ((2 ^ 32 : Nat) : Int) = a := Int.emod_eq_of_lt ha.1 (by omega)
  rw [this]
theorem ofInt64 {a : Int} (h0 : 0 ≤ a) (h1 : a < 18446744073709551616) : (BitVec.ofInt 64 a).toNat = a.toNat := by
  rw [BitVec.toNat_ofInt]
  have : a % ((2 ^ 64 : Nat) : Int) = a := Int.emod_eq_of_lt h0 (by omega)
  rw [this]
theorem and255 {x : Int} (h : U32 x) : bit_and .u32 x 255 = x % 256 := by
  unfold bit_and
  show IntKind.wrap .u32 ((BitVec.ofInt 32 x &&& BitVec.ofInt 32 255).toNat : Nat) = _
  rw [BitVec.toNat_and, ofInt32 h, ofInt32 (by unfold U32; omega)]
  have e : x.toNat &&& (255 : Int).toNat = x.toNat % 256 := Nat.and_two_pow_sub_one_eq_mod x.toNat 8
  rw [e]
  unfold U32 at h
  have : IntKind.wrap .u32 ((x.toNat % 256 : Nat) : Int) = ((x.toNat % 256 : Nat) : Int) := by simp (disch := omega) only [i64_in, u64_in, u32_in, u8_in, u16_in, Option.bind_some, Option.bind_none, Option.bind_eq_bind, ↓Bool.cond_eq_ite, decide_eq_true_eq, beq_iff_eq, bne_iff_ne, ne_eq, Bool.not_eq_true', Bool.not_eq_true, Bool.not_eq_false', Bool.not_not, decide_eq_false_iff_not, if_pos, if_neg, reduceIte, not_true_eq_false, not_false_eq_true, Bool.false_eq_true, Bool.true_eq_false, reduceCtorEq]
  rw [this]; omega
theorem octet {a i : Int} (ha : U32 a) (q : Nat) (hq : (2 : Int) ^ (min (IntKind.wrap .u64 (IntKind.wrap .i64 (8 * i))).toNat 32) = q) (h0 : 0 < q) :
    strconv_Itoa (IntKind.wrap .i64 (bit_and .u32 (shr .u32 a (IntKind.wrap .u64 (IntKind.wrap .i64 (8 * i)))) 255)) = some (D (a.toNat / q % 256)) := by
  have e : shr .u32 a (IntKind.wrap .u64 (IntKind.wrap .i64 (8 * i))) = a / q := by
    show a.fdiv (2 ^ (min (IntKind.wrap .u64 (IntKind.wrap .i64 (8 * i))).toNat 32)) = _
    rw [hq]; exact Int.fdiv_eq_ediv_of_nonneg _ (by omega)
  rw [e]
  unfold U32 at ha
  have d0 : 0 ≤ a / (q : Int) := Int.ediv_nonneg ha.1 (by omega)
  have d1 : a / (q : Int) ≤ a := Int.ediv_le_self _ ha.1
  rw [and255 (by unfold U32; omega)]
  have : IntKind.wrap .i64 (a / (q : Int) % 256) = a / (q : Int) % 256 := by simp (disch := omega) only [i64_in, u64_in, u32_in, u8_in, u16_in, Option.bind_some, Option.bind_none, Option.bind_eq_bind, ↓Bool.cond_eq_ite, decide_eq_true_eq, beq_iff_eq, bne_iff_ne, ne_eq, Bool.not_eq_true', Bool.not_eq_true, Bool.not_eq_false', Bool.not_not, decide_eq_false_iff_not, if_pos, if_neg, reduceIte, not_true_eq_false, not_false_eq_true, Bool.false_eq_true, Bool.true_eq_false, reduceCtorEq]
  rw [this, Itoa_eq (by omega) (by omega)]
  congr 2
  have e2 : a / (q : Int) = ((a.toNat / q : Nat) : Int) := by
    rw [Int.natCast_ediv]; congr 1; omega
  rw [e2]; omega
theorem Join4 (x3 x2 x1 x0 : List UInt8) (h3 : x3.length ≤ 3) (h2 : x2.length ≤ 3) (h1 : x1.length ≤ 3) (h0 : x0.length ≤ 3) :
    strings_Join [x3, x2, x1, x0] [46] = some (x3 ++ 46 :: (x2 ++ 46 :: (x1 ++ 46 :: x0))) := by
  unfold strings_Join
  have e : Lib.join [x3, x2, x1, x0] [46] = x3 ++ 46 :: (x2 ++ 46 :: (x1 ++ 46 :: x0)) := by simp [Lib.join, List.intercalate]
  rw [e, if_pos (by simp; omega)]
theorem Text_l {a : Int} (ha : U32 a) (n : Nat) : addr_Text_l0 (n + 5) a 0 [] [] [] [] = some (tx a.toNat) := by
  have hA := ha
  unfold U32 at hA
  rw [su0_addr_Text]; unfold addr_Text_s0
  refine ct (by decide) (cf (by decide) (bnd (octet ha 1 (by decide) (by decide)) (cf (by decide) (cf (by decide) (cf (by decide) (ct (by decide) ?_))))))
  rw [show IntKind.wrap .i64 (0 + 1) = 1 by decide, su0_addr_Text]; unfold addr_Text_s0
  refine ct (by decide) (cf (by decide) (bnd (octet ha 256 (by decide) (by decide)) (cf (by decide) (cf (by decide) (ct (by decide) ?_)))))
  rw [show IntKind.wrap .i64 (1 + 1) = 2 by decide, su0_addr_Text]; unfold addr_Text_s0
  refine ct (by decide) (cf (by decide) (bnd (octet ha 65536 (by decide) (by decide)) (cf (by decide) (ct (by decide) ?_))))
  rw [show IntKind.wrap .i64 (2 + 1) = 3 by decide, su0_addr_Text]; unfold addr_Text_s0
  refine ct (by decide) (cf (by decide) (bnd (octet ha 16777216 (by decide) (by decide)) (ct (by decide) ?_)))
  rw [show IntKind.wrap .i64 (3 + 1) = 4 by decide, su0_addr_Text]; unfold addr_Text_s0
  refine cf (by decide) (bnd (Join4 _ _ _ _ (D_len (by omega)) (D_len (by omega)) (D_len (by omega)) (D_len (by omega))) ?_)
  unfold tx
  rw [show a.toNat / 16777216 % 256 = a.toNat / 16777216 by omega, Nat.div_one]
theorem Text_eq {a : Int} (ha : U32 a) : addr_Text a = some (tx a.toNat) := by
  show addr_Text_n big a = _
  unfold addr_Text_n addr_Text_e
  exact Text_l ha 4611686018427387899
end Go.Lv.Ld
