import Derived.Test.YtolndkmjmlgcpaaDoorD
import Derived.Test.YtolndkmjmlgcpaaDoorF
import Derived.Lib.AtoiAllCases
namespace Go.Lv.Ld
set_option linter.all false
open Go Go.Lv Go.IntWalk
set_option linter.unusedVariables false
theorem bnd {α β : Type} {o : Option α} {a : α} {f : α → Option β} {r : Option β} (h : o = some a) (h2 : f a = r) : o.bind f = r := by rw [h]; exact h2
theorem ct {α : Type} {c : Bool} {x y r : α} (h : c = true) (h2 : x = r) : (bif c then x else y) = r := by rw [h]; exact h2
theorem cf {α : Type} {c : Bool} {x y r : α} (h : c = false) (h2 : y = r) : (bif c then x else y) = r := by rw [h]; exact h2
/-- The same, but nobody looks into it: else the kernel reckons with words of 64 bits. -/
noncomputable def shut {α : Type} (a : α) : { x : α // x = a } := Classical.choice ⟨⟨a, rfl⟩⟩
/-- A bit of a word. -/
noncomputable def hs (w i : Int) : Bool := (shut fun w i : Int => w.toNat.testBit i.toNat).1 w i
noncomputable def st (w i : Int) : Int := (shut fun w i : Int => ((w.toNat ||| 2 ^ i.toNat : Nat) : Int)).1 w i
noncomputable def cl (w i : Int) : Int := (shut fun w i : Int => ((w.toNat &&& (18446744073709551615 ^^^ 2 ^ i.toNat) : Nat) : Int)).1 w i
end Go.Lv.Ld
namespace Go.Lv.Ld
set_option linter.all false
open Go Go.Lv Go.IntWalk
set_option linter.unusedVariables false
set_option linter.unusedSimpArgs false
/-- A number's digits. -/
def D (u : Nat) : List UInt8 := Lib.decDigits u
def dig (c : UInt8) : Prop := 48 ≤ c.toNat ∧ c.toNat ≤ 57
theorem ch (k : Nat) (h : k < 10) : (UInt8.ofNat (48 + k)).toNat = 48 + k := by
  rw [UInt8.toNat_ofNat']; omega
theorem D_small {u : Nat} (h : u < 10) : D u = [UInt8.ofNat (48 + u)] := Lib.decDigits_one h
theorem D_big {u : Nat} (h : 10 ≤ u) : D u = D (u / 10) ++ [UInt8.ofNat (48 + u % 10)] := by
  unfold D; rw [Lib.decDigits, dif_neg (by omega)]
theorem D_dig (u : Nat) : ∀ c ∈ D u, dig c := by
  induction u using Nat.strongRecOn with
  | _ u ih =>
    intro c hc
    by_cases h : u < 10
    · rw [D_small h, List.mem_singleton] at hc
      subst hc
      unfold dig; rw [ch u h]; omega
    · rw [D_big (by omega), List.mem_append, List.mem_singleton] at hc
      rcases hc with hc | rfl
      · exact ih (u / 10) (by omega) c hc
      · unfold dig; rw [ch _ (by omega)]; omega
theorem D_ne (u : Nat) : D u ≠ [] := by
  by_cases h : u < 10
  · rw [D_small h]; simp
  · rw [D_big (by omega)]; simp
theorem D_pos (u : Nat) : 1 ≤ (D u).length := by
  have := D_ne u
  cases h : D u with
  | nil => exact absurd h this
  | cons a l => simp
theorem D_len {u : Nat} (h : u < 1000) : (D u).length ≤ 3 := by
  by_cases h1 : u < 10
  · rw [D_small h1]; simp
  · rw [D_big (by omega)]
    by_cases h2 : u / 10 < 10
    · rw [D_small h2]; simp
    · rw [D_big (by omega), D_small (by omega)]; simp
theorem D_no {u : Nat} {c : UInt8} (h : ¬ dig c) : c ∉ D u := fun hc => h (D_dig u c hc)
theorem nd46 : ¬ dig 46 := by unfold dig; decide
theorem nd32 : ¬ dig 32 := by unfold dig; decide
open Lib in
theorem pu_app : ∀ (xs ys : List UInt8) (acc : Nat), parseUint10 acc (xs ++ ys) = (match parseUint10 acc xs with | .ok v => parseUint10 v ys | e => e)
  | [], ys, acc => rfl
  | c :: xs, ys, acc => by
    simp only [List.cons_append, parseUint10]
    split
    · split
      · rfl
      · split
        · rfl
        · exact pu_app xs ys _
    · rfl
open Lib in
theorem pu_D (u : Nat) : u < 1000000000000000 → parseUint10 0 (D u) = .ok u := by
  induction u using Nat.strongRecOn with
  | _ u ih =>
    intro hu
    have one : ∀ (acc k : Nat), acc < 1000000000000000 → k < 10 → parseUint10 acc [UInt8.ofNat (48 + k)] = .ok (acc * 10 + k) := by
      intro acc k ha hk
      simp only [parseUint10, ch k hk]
      rw [if_pos (by omega), if_neg (by omega), if_neg (by omega)]
      congr 1; omega
    by_cases h : u < 10
    · rw [D_small h, one 0 u (by omega) h]; congr 1; omega
    · rw [D_big (by omega), pu_app, ih (u / 10) (by omega) (by omega)]
      show parseUint10 (u / 10) _ = _
      rw [one _ _ (by omega) (by omega)]; congr 1; omega
open Lib in
theorem atoi_D {u : Nat} (hu : u < 1000000000000000) : atoiAll (D u) = .ok (u : Int) := by
  have hp := pu_D u hu
  have hd := D_dig u
  cases h : D u with
  | nil => exact absurd h (D_ne u)
  | cons c r =>
    have hc := hd c (by rw [h]; simp)
    unfold dig at hc
    rw [atoiAll_plain c r (by omega) (by omega)]
    unfold parseMag
    rw [if_neg (by simp), ← h, hp]
    show (if 9223372036854775808 ≤ u then _ else _) = _
    rw [if_neg (by omega)]
theorem Atoi_D {u : Nat} (hu : u < 1000) : strconv_Atoi (D u) = some ((u : Int), false) := by
  unfold strconv_Atoi
  have := D_len hu
  rw [if_pos (by omega), atoi_D (by omega)]
theorem Atoi_some {s : List UInt8} (h : s.length ≤ 1000000) : ∃ r, strconv_Atoi s = some r := by
  unfold strconv_Atoi
  rw [if_pos (by omega)]
  cases Lib.atoiAll s <;> exact ⟨_, rfl⟩
theorem Itoa_eq {n : Int} (h0 : 0 ≤ n) (h1 : n ≤ 1000000000000000) : strconv_Itoa n = some (D n.toNat) := by
  unfold strconv_Itoa
  rw [if_pos (by omega)]
  unfold Lib.itoa D
  rw [if_neg (by omega)]
theorem ib_app (c : UInt8) : ∀ (x r : List UInt8), c ∉ x → Lib.indexByte (x ++ c :: r) c = x.length
  | [], r, _ => by simp [Lib.indexByte]
  | b :: x, r, h => by
    have hb : (b == c) = false := by
      simp only [List.mem_cons, not_or] at h
      exact beq_eq_false_iff_ne.2 fun q => h.1 q.symm
    have ih := ib_app c x r (fun q => h (List.mem_cons_of_mem _ q))
    simp only [List.cons_append, Lib.indexByte, hb, ih]
    have : (((x.length : Int) == -1)) = false := beq_eq_false_iff_ne.2 (by omega)
    simp only [this, Bool.false_eq_true, if_false, List.length_cons]
    omega
theorem ib_miss (c : UInt8) : ∀ (x : List UInt8), c ∉ x → Lib.indexByte x c = -1
  | [], _ => rfl
  | b :: x, h => by
    have hb : (b == c) = false := by
      simp only [List.mem_cons, not_or] at h
      exact beq_eq_false_iff_ne.2 fun q => h.1 q.symm
    have ih := ib_miss c x (fun q => h (List.mem_cons_of_mem _ q))
    simp [Lib.indexByte, hb, ih]
theorem drop_past {c : UInt8} (x r : List UInt8) : (x ++ c :: r).drop (x.length + 1) = r := by
  rw [List.drop_append]
  have : x.drop (x.length + 1) = [] := List.drop_eq_nil_of_le (by omega)
  rw [this]
  simp
theorem split_app {c : UInt8} {x r : List UInt8} (h : c ∉ x) : Lib.split (x ++ c :: r) [c] = x :: Lib.split r [c] := by
  unfold Lib.split
  rw [Lib.count_one, Lib.count_one, List.count_append, List.count_cons_self, List.count_eq_zero.2 h, Nat.zero_add, Lib.splitK, Lib.index_one, ib_app c x r h]
  have : (((x.length : Int) == -1)) = false := beq_eq_false_iff_ne.2 (by omega)
  rw [if_neg (by rw [this]; simp), Int.toNat_natCast]
  show (x ++ c :: r).take (x.length + 0) :: Lib.splitK [c] 0 _ ((x ++ c :: r).drop (x.length + 1)) = _
  rw [drop_past, Nat.add_zero, List.take_left]
theorem split_last {c : UInt8} {x : List UInt8} (h : c ∉ x) : Lib.split x [c] = [x] := by
  unfold Lib.split
  rw [Lib.count_one, List.count_eq_zero.2 h]
  rfl
/-- An address' text. -/
def tx (a : Nat) : List UInt8 := D (a / 16777216) ++ 46 :: (D (a / 65536 % 256) ++ 46 :: (D (a / 256 % 256) ++ 46 :: D (a % 256)))
theorem tx_of {a b3 b2 b1 b0 : Nat} (h : a = b3 * 16777216 + b2 * 65536 + b1 * 256 + b0) (h2 : b2 < 256) (h1 : b1 < 256) (h0 : b0 < 256) : tx a = D b3 ++ 46 :: (D b2 ++ 46 :: (D b1 ++ 46 :: D b0)) := by
  unfold tx
  rw [show a / 16777216 = b3 by omega, show a / 65536 % 256 = b2 by omega, show a / 256 % 256 = b1 by omega, show a % 256 = b0 by omega]
theorem tx_mem {a : Nat} {c : UInt8} (h : c ∈ tx a) : dig c ∨ c = 46 := by
  unfold tx at h
  simp only [List.mem_append, List.mem_cons] at h
  rcases h with h | h | h | h | h | h | h
  · exact .inl (D_dig _ c h)
  · exact .inr h
  · exact .inl (D_dig _ c h)
  · exact .inr h
  · exact .inl (D_dig _ c h)
  · exact .inr h
  · exact .inl (D_dig _ c h)
theorem tx_len {a : Nat} (ha : a < 4294967296) : (tx a).length ≤ 15 ∧ 7 ≤ (tx a).length := by
  unfold tx
  simp only [List.length_append, List.length_cons]
  have h3 := @D_len (a / 16777216) (by omega)
  have h2 := @D_len (a / 65536 % 256) (by omega)
  have h1 := @D_len (a / 256 % 256) (by omega)
  have h0 := @D_len (a % 256) (by omega)
  have k3 := D_pos (a / 16777216)
  have k2 := D_pos (a / 65536 % 256)
  have k1 := D_pos (a / 256 % 256)
  have k0 := D_pos (a % 256)
  omega
theorem tx_split {a : Nat} : Lib.split (tx a) [46] = [D (a / 16777216), D (a / 65536 % 256), D (a / 256 % 256), D (a % 256)] := by
  unfold tx
  rw [split_app (D_no nd46), split_app (D_no nd46), split_app (D_no nd46), split_last (D_no nd46)]
end Go.Lv.Ld
namespace Go.Lv.Ld
set_option linter.all false
open Go Go.Lv Go.IntWalk
set_option linter.unusedVariables false
set_option linter.unusedSimpArgs false
set_option maxRecDepth 100000
def U32 (a : Int) : Prop := 0 ≤ a ∧ a < 4294967296
theorem ofInt32 {a : Int} (ha : U32 a) : (BitVec.ofInt 32 a).toNat = a.toNat := by
  unfold U32 at ha
  rw [BitVec.toNat_ofInt]
  have : a % ((2 ^ 32 : Nat) : Int) = a := Int.emod_eq_of_lt ha.1 (by omega)
  rw [this]
theorem and255 {x : Int} (h : U32 x) : bit_and .u32 x 255 = x % 256 := by
  unfold bit_and
  show IntKind.wrap .u32 ((BitVec.ofInt 32 x &&& BitVec.ofInt 32 255).toNat : Nat) = _
  rw [BitVec.toNat_and, ofInt32 h, ofInt32 (by unfold U32; omega)]
  have e : x.toNat &&& (255 : Int).toNat = x.toNat % 256 := Nat.and_two_pow_sub_one_eq_mod x.toNat 8
  rw [e]
  unfold U32 at h
  have : IntKind.wrap .u32 ((x.toNat % 256 : Nat) : Int) = ((x.toNat % 256 : Nat) : Int) := by simp (disch := omega) only [i64_in, u64_in, u32_in, u8_in, u16_in, Option.bind_some, Option.bind_none, Option.bind_eq_bind, ↓Bool.cond_eq_ite, decide_eq_true_eq, beq_iff_eq, bne_iff_ne, ne_eq, Bool.not_eq_true', Bool.not_eq_true, Bool.not_eq_false', Bool.not_not, decide_eq_false_iff_not, if_pos, if_neg, reduceIte, not_true_eq_false, not_false_eq_true, Bool.false_eq_true, Bool.true_eq_false, reduceCtorEq]
  rw [this]; omega
theorem octet {a i : Int} (ha : U32 a) (q : Nat) (hq : (2 : Int) ^ (min (IntKind.wrap .u64 (IntKind.wrap .i64 (8 * i))).toNat 32) = q) (h0 : 0 < q) :
    strconv_Itoa (IntKind.wrap .i64 (bit_and .u32 (shr .u32 a (IntKind.wrap .u64 (IntKind.wrap .i64 (8 * i)))) 255)) = some (D (a.toNat / q % 256)) := by
  have e : shr .u32 a (IntKind.wrap .u64 (IntKind.wrap .i64 (8 * i))) = a / q := by
    show a.fdiv (2 ^ (min (IntKind.wrap .u64 (IntKind.wrap .i64 (8 * i))).toNat 32)) = _
    rw [hq]; exact Int.fdiv_eq_ediv_of_nonneg _ (by omega)
  rw [e]
  unfold U32 at ha
  have d0 : 0 ≤ a / (q : Int) := Int.ediv_nonneg ha.1 (by omega)
  have d1 : a / (q : Int) ≤ a := Int.ediv_le_self _ ha.1
  rw [and255 (by unfold U32; omega)]
  have : IntKind.wrap .i64 (a / (q : Int) % 256) = a / (q : Int) % 256 := by simp (disch := omega) only [i64_in, u64_in, u32_in, u8_in, u16_in, Option.bind_some, Option.bind_none, Option.bind_eq_bind, ↓Bool.cond_eq_ite, decide_eq_true_eq, beq_iff_eq, bne_iff_ne, ne_eq, Bool.not_eq_true', Bool.not_eq_true, Bool.not_eq_false', Bool.not_not, decide_eq_false_iff_not, if_pos, if_neg, reduceIte, not_true_eq_false, not_false_eq_true, Bool.false_eq_true, Bool.true_eq_false, reduceCtorEq]
  rw [this, Itoa_eq (by omega) (by omega)]
  congr 2
  have e2 : a / (q : Int) = ((a.toNat / q : Nat) : Int) := by
    rw [Int.natCast_ediv]; congr 1; omega
  rw [e2]; omega
theorem Join4 (x3 x2 x1 x0 : List UInt8) (h3 : x3.length ≤ 3) (h2 : x2.length ≤ 3) (h1 : x1.length ≤ 3) (h0 : x0.length ≤ 3) :
    strings_Join [x3, x2, x1, x0] [46] = some (x3 ++ 46 :: (x2 ++ 46 :: (x1 ++ 46 :: x0))) := by
  unfold strings_Join
  have e : Lib.join [x3, x2, x1, x0] [46] = x3 ++ 46 :: (x2 ++ 46 :: (x1 ++ 46 :: x0)) := by simp [Lib.join, List.intercalate]
  rw [e, if_pos (by simp; omega)]
theorem Text_l {a : Int} (ha : U32 a) (n : Nat) : addr_Text_l0 (n + 5) a 0 [] [] [] [] = some (tx a.toNat) := by
  have hA := ha
  unfold U32 at hA
  rw [su0_addr_Text]; unfold addr_Text_s0
  refine ct (by decide) (cf (by decide) (bnd (octet ha 1 (by decide) (by decide)) (cf (by decide) (cf (by decide) (cf (by decide) (ct (by decide) ?_))))))
  rw [show IntKind.wrap .i64 (0 + 1) = 1 by decide, su0_addr_Text]; unfold addr_Text_s0
  refine ct (by decide) (cf (by decide) (bnd (octet ha 256 (by decide) (by decide)) (cf (by decide) (cf (by decide) (ct (by decide) ?_)))))
  rw [show IntKind.wrap .i64 (1 + 1) = 2 by decide, su0_addr_Text]; unfold addr_Text_s0
  refine ct (by decide) (cf (by decide) (bnd (octet ha 65536 (by decide) (by decide)) (cf (by decide) (ct (by decide) ?_))))
  rw [show IntKind.wrap .i64 (2 + 1) = 3 by decide, su0_addr_Text]; unfold addr_Text_s0
  refine ct (by decide) (cf (by decide) (bnd (octet ha 16777216 (by decide) (by decide)) (ct (by decide) ?_)))
  rw [show IntKind.wrap .i64 (3 + 1) = 4 by decide, su0_addr_Text]; unfold addr_Text_s0
  refine cf (by decide) (bnd (Join4 _ _ _ _ (D_len (by omega)) (D_len (by omega)) (D_len (by omega)) (D_len (by omega))) ?_)
  unfold tx
  rw [show a.toNat / 16777216 % 256 = a.toNat / 16777216 by omega, Nat.div_one]
theorem Text_eq {a : Int} (ha : U32 a) : addr_Text a = some (tx a.toNat) := by
  show addr_Text_n big a = _
  unfold addr_Text_n addr_Text_e
  exact Text_l ha 4611686018427387899
end Go.Lv.Ld
namespace Go.Lv.Ld
set_option linter.all false
open Go Go.Lv Go.IntWalk
set_option linter.unusedVariables false
set_option linter.unusedSimpArgs false
set_option maxRecDepth 100000
theorem splitK_w (sep : List UInt8) : ∀ (k : Nat) (s : List UInt8), (∀ w ∈ Lib.splitK sep 0 k s, w.length ≤ s.length) ∧ (Lib.splitK sep 0 k s).length ≤ k + 1
  | 0, s => by simp [Lib.splitK]
  | k + 1, s => by
    unfold Lib.splitK
    split
    · simp
    · obtain ⟨h1, h2⟩ := splitK_w sep k (s.drop ((Lib.index s sep).toNat + sep.length))
      refine ⟨fun w hw => ?_, by simp only [List.length_cons]; omega⟩
      rcases List.mem_cons.1 hw with rfl | hw
      · simp; omega
      · have := h1 w hw
        simp only [List.length_drop] at this
        omega
theorem split_w (s : List UInt8) : (∀ w ∈ Lib.split s [46], w.length ≤ s.length) ∧ (Lib.split s [46]).length ≤ s.length + 2 := by
  obtain ⟨h1, h2⟩ := splitK_w [46] (Lib.count s [46]) s
  have := Lib.count_le s [46]
  exact ⟨h1, by unfold Lib.split; omega⟩
theorem or_u32 (x y : Int) : U32 (bit_or .u32 x y) := by
  unfold bit_or U32
  rw [IntKind.wrap_u32]
  omega
theorem geti_at {α : Type} {l : List α} {i : Int} (h0 : 0 ≤ i) (h : i < l.length) : geti l i = some (l[i.toNat]'(by omega)) := by
  unfold geti
  rw [if_pos h0, List.getElem?_eq_getElem (by omega)]
/-- What a reading comes to, if it isn't more. -/
def PW (s : List UInt8) (r : Int × Int) : Prop := r = (0, 2) ∨ ∃ a : Nat, a < 4294967296 ∧ s = tx a ∧ r = ((a : Int), 0)
theorem fin_pw {ws : List (List UInt8)} {s : List UInt8} {acc : Int} (ha : U32 acc) :
    ∃ r, (bif ((List.length ws : Int) != 4) then some (0, 2) else ((addr_Text acc).bind fun r7 => (bif (!(r7 == s)) then some (0, 2) else some (acc, 0)))) = some r ∧ PW s r := by
  cases h1 : ((List.length ws : Int) != 4) with
  | true => exact ⟨_, rfl, .inl rfl⟩
  | false =>
    rw [Text_eq ha]
    simp only [Option.bind_some, cond_false]
    cases h2 : (tx acc.toNat == s) with
    | false => exact ⟨_, rfl, .inl rfl⟩
    | true =>
      unfold U32 at ha
      refine ⟨_, rfl, .inr ⟨acc.toNat, by omega, (beq_iff_eq.1 h2).symm, ?_⟩⟩
      rw [Int.toNat_of_nonneg ha.1]
theorem Parse_l (s : List UInt8) (ws : List (List UInt8)) (hw : ∀ w ∈ ws, w.length ≤ 1000000) (hl : ws.length ≤ 1000000) : ∀ (d n : Nat) (acc i : Int), d < n → U32 acc → 0 ≤ i → (ws.length : Int) - i ≤ d →
    ∃ r, addr_Parse_l0 n s ws acc ws (ws.length : Int) i = some r ∧ PW s r
  | d, n + 1, acc, i, hn, ha, hi, hd => by
    rw [su0_addr_Parse]
    unfold addr_Parse_s0
    by_cases hlt : i < ws.length
    · rw [ct (decide_eq_true hlt) rfl, bnd (geti_at hi hlt) rfl]
      obtain ⟨r3, h3⟩ := Atoi_some (hw _ (List.getElem_mem (by omega : i.toNat < ws.length)))
      rw [bnd h3 rfl]
      cases hr : r3.2 with
      | true => exact fin_pw ha
      | false =>
        rw [cond_false]
        cases h4 : decide (r3.1 < 0) with
        | true => exact fin_pw ha
        | false =>
          rw [cond_false]
          cases h5 : decide (r3.1 > 255) with
          | true => exact fin_pw ha
          | false =>
            rw [cond_false]
            have : IntKind.wrap .i64 (i + 1) = i + 1 := by simp (disch := omega) only [i64_in, u64_in, u32_in, u8_in, u16_in, Option.bind_some, Option.bind_none, Option.bind_eq_bind, ↓Bool.cond_eq_ite, decide_eq_true_eq, beq_iff_eq, bne_iff_ne, ne_eq, Bool.not_eq_true', Bool.not_eq_true, Bool.not_eq_false', Bool.not_not, decide_eq_false_iff_not, if_pos, if_neg, reduceIte, not_true_eq_false, not_false_eq_true, Bool.false_eq_true, Bool.true_eq_false, reduceCtorEq]
            rw [this]
            cases d with
            | zero => omega
            | succ d => exact Parse_l s ws hw hl d n _ (i + 1) (by omega) (or_u32 _ _) (by omega) (by omega)
    · rw [cf (decide_eq_false hlt) rfl]
      exact fin_pw ha
theorem Split_eq {s : List UInt8} (h : s.length ≤ 100000) : strings_Split s [46] = some (Lib.split s [46]) := by
  unfold strings_Split
  rw [if_pos (by simp; omega)]
theorem Parse_pw {s : List UInt8} (h : s.length ≤ 100000) : ∃ r, addr_Parse s = some r ∧ PW s r := by
  show ∃ r, addr_Parse_n big s = some r ∧ _
  unfold addr_Parse_n addr_Parse_e
  rw [bnd (Split_eq h) rfl]
  obtain ⟨h1, h2⟩ := split_w s
  exact Parse_l s _ (fun w hw => by have := h1 w hw; omega) (by omega) (Lib.split s [46]).length big 0 0 (by unfold big; omega) (by unfold U32; omega) (by omega) (by omega)
theorem or_add {acc b : Int} (h0 : 0 ≤ acc) (h1 : acc < 16777216) (b0 : 0 ≤ b) (b1 : b < 256) : bit_or .u32 (shl .u32 acc 8) (IntKind.wrap .u32 b) = acc * 256 + b := by
  have e1 : shl .u32 acc 8 = acc * 256 := by
    unfold shl
    show IntKind.wrap .u32 (acc * 2 ^ (min (8 : Int).toNat 32)) = _
    rw [show (2 : Int) ^ (min (8 : Int).toNat 32) = 256 by decide]
    simp (disch := omega) only [i64_in, u64_in, u32_in, u8_in, u16_in, Option.bind_some, Option.bind_none, Option.bind_eq_bind, ↓Bool.cond_eq_ite, decide_eq_true_eq, beq_iff_eq, bne_iff_ne, ne_eq, Bool.not_eq_true', Bool.not_eq_true, Bool.not_eq_false', Bool.not_not, decide_eq_false_iff_not, if_pos, if_neg, reduceIte, not_true_eq_false, not_false_eq_true, Bool.false_eq_true, Bool.true_eq_false, reduceCtorEq]
  have e2 : IntKind.wrap .u32 b = b := by simp (disch := omega) only [i64_in, u64_in, u32_in, u8_in, u16_in, Option.bind_some, Option.bind_none, Option.bind_eq_bind, ↓Bool.cond_eq_ite, decide_eq_true_eq, beq_iff_eq, bne_iff_ne, ne_eq, Bool.not_eq_true', Bool.not_eq_true, Bool.not_eq_false', Bool.not_not, decide_eq_false_iff_not, if_pos, if_neg, reduceIte, not_true_eq_false, not_false_eq_true, Bool.false_eq_true, Bool.true_eq_false, reduceCtorEq]
  rw [e1, e2]
  unfold bit_or
  show IntKind.wrap .u32 ((BitVec.ofInt 32 (acc * 256) ||| BitVec.ofInt 32 b).toNat : Nat) = _
  rw [BitVec.toNat_or, ofInt32 (by unfold U32; omega), ofInt32 (by unfold U32; omega)]
  have e3 : (acc * 256).toNat ||| b.toNat = acc.toNat * 256 + b.toNat := by
    rw [show (acc * 256).toNat = 2 ^ 8 * acc.toNat by omega, ← Nat.two_pow_add_eq_or_of_lt (by omega)]
    omega
  rw [e3]
  have : IntKind.wrap .u32 ((acc.toNat * 256 + b.toNat : Nat) : Int) = ((acc.toNat * 256 + b.toNat : Nat) : Int) := by simp (disch := omega) only [i64_in, u64_in, u32_in, u8_in, u16_in, Option.bind_some, Option.bind_none, Option.bind_eq_bind, ↓Bool.cond_eq_ite, decide_eq_true_eq, beq_iff_eq, bne_iff_ne, ne_eq, Bool.not_eq_true', Bool.not_eq_true, Bool.not_eq_false', Bool.not_not, decide_eq_false_iff_not, if_pos, if_neg, reduceIte, not_true_eq_false, not_false_eq_true, Bool.false_eq_true, Bool.true_eq_false, reduceCtorEq]
  rw [this]; omega
theorem Parse_r {s : List UInt8} {ws : List (List UInt8)} {acc i : Int} {b : Nat} (n : Nat) (h0 : 0 ≤ acc) (h1 : acc < 16777216) (hb : b < 256) (hi : decide (i < (ws.length : Int)) = true) (hg : geti ws i = some (D b)) (hx : IntKind.wrap .i64 (i + 1) = i + 1) :
    addr_Parse_l0 (n + 1) s ws acc ws (ws.length : Int) i = addr_Parse_l0 n s ws (acc * 256 + b) ws (ws.length : Int) (i + 1) := by
  rw [su0_addr_Parse]
  unfold addr_Parse_s0
  refine ct hi (bnd hg (bnd (Atoi_D (by omega)) (cf rfl (cf ?_ (cf ?_ ?_)))))
  · simp
  · simp; omega
  · rw [hx, or_add h0 h1 (by omega) (by omega)]
theorem Parse_tx {a : Nat} (ha : a < 4294967296) : addr_Parse (tx a) = some ((a : Int), 0) := by
  show addr_Parse_n big (tx a) = _
  unfold addr_Parse_n addr_Parse_e
  have hl := (tx_len ha).1
  rw [bnd (Split_eq (by omega)) rfl, tx_split]
  show addr_Parse_l0 (4611686018427387899 + 5) _ _ 0 _ _ 0 = _
  generalize 4611686018427387899 = n
  rw [Parse_r (b := a / 16777216) (n + 4) (by omega) (by omega) (by omega) rfl rfl (by decide),
    Parse_r (b := a / 65536 % 256) (n + 3) (by omega) (by omega) (by omega) rfl rfl (by decide),
    Parse_r (b := a / 256 % 256) (n + 2) (by omega) (by omega) (by omega) rfl rfl (by decide),
    Parse_r (b := a % 256) (n + 1) (by omega) (by omega) (by omega) rfl rfl (by decide), su0_addr_Parse]
  unfold addr_Parse_s0
  have e : (((0 * 256 + ((a / 16777216 : Nat) : Int)) * 256 + ((a / 65536 % 256 : Nat) : Int)) * 256 + ((a / 256 % 256 : Nat) : Int)) * 256 + ((a % 256 : Nat) : Int) = (a : Int) := by omega
  rw [e]
  refine cf rfl (cf rfl (bnd (Text_eq (by unfold U32; omega)) ?_))
  rw [Int.toNat_natCast]
  exact cf (by simp) rfl
/-- The reading of a text. -/
def PS (s : List UInt8) (r : Int × Int) : Prop := (∃ a : Nat, a < 4294967296 ∧ s = tx a ∧ r = ((a : Int), 0)) ∨ ((∀ a : Nat, a < 4294967296 → s ≠ tx a) ∧ r = (0, 2))
theorem Parse_ps {s : List UInt8} (h : s.length ≤ 100000) : ∃ r, addr_Parse s = some r ∧ PS s r := by
  obtain ⟨r, h1, h2⟩ := Parse_pw h
  refine ⟨r, h1, ?_⟩
  rcases h2 with rfl | h2
  · refine .inr ⟨fun a ha e => ?_, rfl⟩
    rw [e, Parse_tx ha] at h1
    simp at h1
  · exact .inl h2
theorem PS_u32 {s : List UInt8} {r : Int × Int} (h : PS s r) : U32 r.1 := by
  unfold U32
  rcases h with ⟨a, ha, _, rfl⟩ | ⟨_, rfl⟩
  · simp; omega
  · simp
end Go.Lv.Ld
namespace Go.Lv.Ld
set_option linter.all false
open Go Go.Lv Go.IntWalk
set_option linter.unusedVariables false
set_option linter.unusedSimpArgs false
set_option maxRecDepth 100000
theorem strOf1 (x : Int) : strOf [x] = [UInt8.ofNat x.toNat] := rfl
theorem dig1 {k : Int} (h0 : 0 ≤ k) (h1 : k < 10) : strOf [IntKind.wrap .u8 (IntKind.wrap .i64 (48 + k))] = [UInt8.ofNat (48 + k.toNat)] := by
  have : IntKind.wrap .u8 (IntKind.wrap .i64 (48 + k)) = 48 + k := by simp (disch := omega) only [i64_in, u64_in, u32_in, u8_in, u16_in, Option.bind_some, Option.bind_none, Option.bind_eq_bind, ↓Bool.cond_eq_ite, decide_eq_true_eq, beq_iff_eq, bne_iff_ne, ne_eq, Bool.not_eq_true', Bool.not_eq_true, Bool.not_eq_false', Bool.not_not, decide_eq_false_iff_not, if_pos, if_neg, reduceIte, not_true_eq_false, not_false_eq_true, Bool.false_eq_true, Bool.true_eq_false, reduceCtorEq]
  rw [this, strOf1, show (48 + k).toNat = 48 + k.toNat by omega]
theorem dec_l (u : Nat) : u < 1000000000000000 → ∀ f, u < f → lodgerref04_dec_r f (u : Int) = some (D u) := by
  induction u using Nat.strongRecOn with
  | _ u ih =>
    intro hu f hf
    obtain ⟨f, rfl⟩ : ∃ g, f = g + 1 := ⟨f - 1, by omega⟩
    rw [lodgerref04_dec_ru]
    unfold lodgerref04_dec_b
    by_cases h : u < 10
    · refine ct (by simp; omega) ?_
      rw [dig1 (by omega) (by omega), D_small h]; rfl
    · refine cf (by simp; omega) ?_
      have e1 : IntKind.wrap .i64 (Int.tdiv (u : Int) 10) = ((u / 10 : Nat) : Int) := by
        rw [Int.tdiv_eq_ediv_of_nonneg (by omega)]
        have : ((u / 10 : Nat) : Int) = (u : Int) / 10 := by omega
        rw [this]; simp (disch := omega) only [i64_in, u64_in, u32_in, u8_in, u16_in, Option.bind_some, Option.bind_none, Option.bind_eq_bind, ↓Bool.cond_eq_ite, decide_eq_true_eq, beq_iff_eq, bne_iff_ne, ne_eq, Bool.not_eq_true', Bool.not_eq_true, Bool.not_eq_false', Bool.not_not, decide_eq_false_iff_not, if_pos, if_neg, reduceIte, not_true_eq_false, not_false_eq_true, Bool.false_eq_true, Bool.true_eq_false, reduceCtorEq]
      have e2 : Int.tmod (u : Int) 10 = (u : Int) % 10 := Int.tmod_eq_emod_of_nonneg (by omega)
      rw [e1, e2, dig1 (by omega) (by omega)]
      refine bnd (ih (u / 10) (by omega) (by omega) f (by omega)) ?_
      have hlen : (D (u / 10)).length ≤ 1000000 := by
        unfold D
        rw [Lib.decDigits_length]
        have : Lib.nDigits (u / 10) ≤ 20 := by
          by_cases q : u / 10 = 0
          · rw [q, Lib.nDigits_small (by omega)]; omega
          · have := Lib.numDigits_eq (u / 10) (by omega) (by omega)
            split at this <;> omega
        omega
      refine ct (by simp; omega) ?_
      rw [D_big (u := u) (by omega), show ((u : Int) % 10).toNat = u % 10 by omega]
theorem dec_eq {n : Int} (h0 : 0 ≤ n) (h1 : n < 1000000000000000) : lodgerref04_dec n = some (D n.toNat) := by
  unfold lodgerref04_dec
  have := dec_l n.toNat (by omega) big (by unfold big; omega)
  rwa [Int.toNat_of_nonneg h0] at this
theorem rText_eq {a : Int} (ha : U32 a) : lodgerref04_Text a = some (tx a.toNat) := by
  unfold U32 at ha
  unfold lodgerref04_Text
  have e3 : IntKind.wrap .i64 (IntKind.wrap .u32 (Int.tdiv a 16777216)) = a / 16777216 := by
    rw [Int.tdiv_eq_ediv_of_nonneg (by omega)]; simp (disch := omega) only [i64_in, u64_in, u32_in, u8_in, u16_in, Option.bind_some, Option.bind_none, Option.bind_eq_bind, ↓Bool.cond_eq_ite, decide_eq_true_eq, beq_iff_eq, bne_iff_ne, ne_eq, Bool.not_eq_true', Bool.not_eq_true, Bool.not_eq_false', Bool.not_not, decide_eq_false_iff_not, if_pos, if_neg, reduceIte, not_true_eq_false, not_false_eq_true, Bool.false_eq_true, Bool.true_eq_false, reduceCtorEq]
  have e2 : IntKind.wrap .i64 (Int.tmod (IntKind.wrap .u32 (Int.tdiv a 65536)) 256) = a / 65536 % 256 := by
    rw [Int.tdiv_eq_ediv_of_nonneg (by omega)]
    have : IntKind.wrap .u32 (a / 65536) = a / 65536 := by simp (disch := omega) only [i64_in, u64_in, u32_in, u8_in, u16_in, Option.bind_some, Option.bind_none, Option.bind_eq_bind, ↓Bool.cond_eq_ite, decide_eq_true_eq, beq_iff_eq, bne_iff_ne, ne_eq, Bool.not_eq_true', Bool.not_eq_true, Bool.not_eq_false', Bool.not_not, decide_eq_false_iff_not, if_pos, if_neg, reduceIte, not_true_eq_false, not_false_eq_true, Bool.false_eq_true, Bool.true_eq_false, reduceCtorEq]
    rw [this, Int.tmod_eq_emod_of_nonneg (by omega)]; simp (disch := omega) only [i64_in, u64_in, u32_in, u8_in, u16_in, Option.bind_some, Option.bind_none, Option.bind_eq_bind, ↓Bool.cond_eq_ite, decide_eq_true_eq, beq_iff_eq, bne_iff_ne, ne_eq, Bool.not_eq_true', Bool.not_eq_true, Bool.not_eq_false', Bool.not_not, decide_eq_false_iff_not, if_pos, if_neg, reduceIte, not_true_eq_false, not_false_eq_true, Bool.false_eq_true, Bool.true_eq_false, reduceCtorEq]
  have e1 : IntKind.wrap .i64 (Int.tmod (IntKind.wrap .u32 (Int.tdiv a 256)) 256) = a / 256 % 256 := by
    rw [Int.tdiv_eq_ediv_of_nonneg (by omega)]
    have : IntKind.wrap .u32 (a / 256) = a / 256 := by simp (disch := omega) only [i64_in, u64_in, u32_in, u8_in, u16_in, Option.bind_some, Option.bind_none, Option.bind_eq_bind, ↓Bool.cond_eq_ite, decide_eq_true_eq, beq_iff_eq, bne_iff_ne, ne_eq, Bool.not_eq_true', Bool.not_eq_true, Bool.not_eq_false', Bool.not_not, decide_eq_false_iff_not, if_pos, if_neg, reduceIte, not_true_eq_false, not_false_eq_true, Bool.false_eq_true, Bool.true_eq_false, reduceCtorEq]
    rw [this, Int.tmod_eq_emod_of_nonneg (by omega)]; simp (disch := omega) only [i64_in, u64_in, u32_in, u8_in, u16_in, Option.bind_some, Option.bind_none, Option.bind_eq_bind, ↓Bool.cond_eq_ite, decide_eq_true_eq, beq_iff_eq, bne_iff_ne, ne_eq, Bool.not_eq_true', Bool.not_eq_true, Bool.not_eq_false', Bool.not_not, decide_eq_false_iff_not, if_pos, if_neg, reduceIte, not_true_eq_false, not_false_eq_true, Bool.false_eq_true, Bool.true_eq_false, reduceCtorEq]
  have e0 : IntKind.wrap .i64 (Int.tmod a 256) = a % 256 := by
    rw [Int.tmod_eq_emod_of_nonneg (by omega)]; simp (disch := omega) only [i64_in, u64_in, u32_in, u8_in, u16_in, Option.bind_some, Option.bind_none, Option.bind_eq_bind, ↓Bool.cond_eq_ite, decide_eq_true_eq, beq_iff_eq, bne_iff_ne, ne_eq, Bool.not_eq_true', Bool.not_eq_true, Bool.not_eq_false', Bool.not_not, decide_eq_false_iff_not, if_pos, if_neg, reduceIte, not_true_eq_false, not_false_eq_true, Bool.false_eq_true, Bool.true_eq_false, reduceCtorEq]
  rw [e3, e2, e1, e0]
  have l3 := @D_len (a / 16777216).toNat (by omega)
  have l2 := @D_len (a / 65536 % 256).toNat (by omega)
  have l1 := @D_len (a / 256 % 256).toNat (by omega)
  have l0 := @D_len (a % 256).toNat (by omega)
  refine bnd (dec_eq (by omega) (by omega)) (ct ?_ (bnd (dec_eq (by omega) (by omega)) (ct ?_ (ct ?_ (bnd (dec_eq (by omega) (by omega)) (ct ?_ (ct ?_ (bnd (dec_eq (by omega) (by omega)) (ct ?_ ?_)))))))))
  rotate_right
  · unfold tx
    rw [show (a / 16777216).toNat = a.toNat / 16777216 by omega, show (a / 65536 % 256).toNat = a.toNat / 65536 % 256 by omega, show (a / 256 % 256).toNat = a.toNat / 256 % 256 by omega, show (a % 256).toNat = a.toNat % 256 by omega]
    simp
  all_goals (simp only [decide_eq_true_eq, List.length_append, List.length_singleton]; omega)
/-- One byte of a text: the last number grows, or another one begins. -/
def nstep (l : List Int) (c : UInt8) : List Int := if 48 ≤ c.toNat ∧ c.toNat ≤ 57 then l.set (l.length - 1) (mm false (10 * l.getD (l.length - 1) 0 + c.toNat - 48) 100000) else l ++ [0]
theorem mm_r {x : Int} (h : 0 ≤ x) : 0 ≤ mm false x 100000 ∧ mm false x 100000 ≤ 100000 := by
  unfold mm
  simp only [Bool.false_eq_true, if_false]
  split <;> omega
theorem numbers_l (s : List UInt8) (hs : s.length ≤ 100000) : ∀ (d n : Nat) (i : Int) (l : List Int), d < n → 0 ≤ i → (s.length : Int) - i = d → l ≠ [] → (∀ x ∈ l, 0 ≤ x ∧ x ≤ 100000) → l.length + d ≤ 500000 →
    lodgerref04_numbers_l0 n s i l = some ((s.drop i.toNat).foldl nstep l)
  | 0, n + 1, i, l, hn, hi, hd, hl, hx, hL => by
    rw [su0_lodgerref04_numbers]
    unfold lodgerref04_numbers_s0
    refine cf (by simp; omega) ?_
    rw [List.drop_eq_nil_of_le (by omega)]; rfl
  | d + 1, n + 1, i, l, hn, hi, hd, hl, hx, hL => by
    have hlt : i < s.length := by omega
    have hg := geti_at hi hlt
    have hdr : s.drop i.toNat = s[i.toNat]'(by omega) :: s.drop (i + 1).toNat := by
      rw [List.drop_eq_getElem_cons (by omega), show (i + 1).toNat = i.toNat + 1 by omega]
    have hpos : 0 < l.length := List.length_pos_iff.2 hl
    generalize s[i.toNat]'(by omega) = c at hg hdr
    have w2 : IntKind.wrap .i64 (i + 1) = i + 1 := by simp (disch := omega) only [i64_in, u64_in, u32_in, u8_in, u16_in, Option.bind_some, Option.bind_none, Option.bind_eq_bind, ↓Bool.cond_eq_ite, decide_eq_true_eq, beq_iff_eq, bne_iff_ne, ne_eq, Bool.not_eq_true', Bool.not_eq_true, Bool.not_eq_false', Bool.not_not, decide_eq_false_iff_not, if_pos, if_neg, reduceIte, not_true_eq_false, not_false_eq_true, Bool.false_eq_true, Bool.true_eq_false, reduceCtorEq]
    have hb := c.toNat_lt
    rw [su0_lodgerref04_numbers]
    unfold lodgerref04_numbers_s0
    rw [ct (decide_eq_true hlt) rfl, bnd hg rfl, w2]
    have other : ¬ (48 ≤ c.toNat ∧ c.toNat ≤ 57) → (bif (decide (l.length + ([0] : List Int).length ≤ maxList)) then lodgerref04_numbers_l0 n s (i + 1) (l ++ ([0] : List Int)) else none) = some ((s.drop i.toNat).foldl nstep l) := by
      intro hc
      refine ct (by simp [maxList]; omega) ?_
      rw [numbers_l s hs d n (i + 1) (l ++ [0]) (by omega) (by omega) (by omega) (by simp) (fun x q => by
        rcases List.mem_append.1 q with q | q
        · exact hx x q
        · rw [List.mem_singleton] at q; omega) (by simp; omega), hdr, List.foldl_cons]
      congr 2
      unfold nstep
      rw [if_neg hc]
    by_cases h1 : 48 ≤ c.toNat
    · rw [ct (by simp; omega) rfl, bnd hg rfl]
      by_cases h2 : c.toNat ≤ 57
      · rw [ct (by simp; omega) rfl]
        have w1 : IntKind.wrap .i64 ((List.length l : Int) - 1) = (List.length l : Int) - 1 := by simp (disch := omega) only [i64_in, u64_in, u32_in, u8_in, u16_in, Option.bind_some, Option.bind_none, Option.bind_eq_bind, ↓Bool.cond_eq_ite, decide_eq_true_eq, beq_iff_eq, bne_iff_ne, ne_eq, Bool.not_eq_true', Bool.not_eq_true, Bool.not_eq_false', Bool.not_not, decide_eq_false_iff_not, if_pos, if_neg, reduceIte, not_true_eq_false, not_false_eq_true, Bool.false_eq_true, Bool.true_eq_false, reduceCtorEq]
        have hidx : ((List.length l : Int) - 1).toNat = l.length - 1 := by omega
        obtain ⟨x, hge, hr⟩ : ∃ x, l[l.length - 1]? = some x ∧ 0 ≤ x ∧ x ≤ 100000 := ⟨_, List.getElem?_eq_getElem (by omega), hx _ (List.getElem_mem (by omega : l.length - 1 < l.length))⟩
        have hgd : l.getD (l.length - 1) 0 = x := by rw [List.getD, hge]; rfl
        rw [w1, hidx, ct (by simp; omega) rfl, bnd hge rfl, bnd hg rfl, ct (by simp; omega) rfl, bnd hge rfl]
        have w3 : IntKind.wrap .i64 ((IntKind.wrap .i64 ((IntKind.wrap .i64 (10 * x)) + (IntKind.wrap .i64 (c.toNat : Int)))) - 48) = 10 * x + c.toNat - 48 := by simp (disch := omega) only [i64_in, u64_in, u32_in, u8_in, u16_in, Option.bind_some, Option.bind_none, Option.bind_eq_bind, ↓Bool.cond_eq_ite, decide_eq_true_eq, beq_iff_eq, bne_iff_ne, ne_eq, Bool.not_eq_true', Bool.not_eq_true, Bool.not_eq_false', Bool.not_not, decide_eq_false_iff_not, if_pos, if_neg, reduceIte, not_true_eq_false, not_false_eq_true, Bool.false_eq_true, Bool.true_eq_false, reduceCtorEq]
        rw [w3]
        rw [numbers_l s hs d n (i + 1) _ (by omega) (by omega) (by omega) (by intro q; apply hl; have := congrArg List.length q; rw [List.length_set] at this; exact List.eq_nil_of_length_eq_zero this) (fun y q => by
          rcases List.mem_or_eq_of_mem_set q with q | q
          · exact hx y q
          · rw [q]; exact mm_r (by omega)) (by simp; omega), hdr, List.foldl_cons]
        congr 2
        unfold nstep
        rw [if_pos ⟨h1, h2⟩, hgd]
      · rw [cf (by simp; omega) rfl]
        exact other (by omega)
    · rw [cf (by simp; omega) rfl]
      exact other (by omega)
theorem numbers_eq {s : List UInt8} (hs : s.length ≤ 100000) : lodgerref04_numbers s = some (s.foldl nstep [0]) := by
  show lodgerref04_numbers_n big s = _
  unfold lodgerref04_numbers_n lodgerref04_numbers_e
  have := numbers_l s hs s.length big 0 [0] (by unfold big; omega) (by omega) (by omega) (by simp) (fun x q => by rw [List.mem_singleton] at q; omega) (by simp; omega)
  simpa using this
theorem nstep_last (l : List Int) (v : Int) (k : Nat) (hk : k < 10) (h0 : 0 ≤ v) (h1 : v ≤ 1000) : nstep (l ++ [v]) (UInt8.ofNat (48 + k)) = l ++ [10 * v + k] := by
  unfold nstep
  rw [ch k hk, if_pos (by omega)]
  have e : (l ++ [v]).length - 1 = l.length := by simp
  rw [e]
  have g : (l ++ [v]).getD l.length 0 = v := by rw [List.getD, List.getElem?_append_right (by omega)]; simp
  rw [g]
  have m : mm false (10 * v + ((48 + k : Nat) : Int) - 48) 100000 = 10 * v + k := by
    unfold mm
    simp only [Bool.false_eq_true, if_false]
    rw [if_neg (by omega)]; omega
  rw [m, List.set_append_right _ _ (by omega)]
  simp
theorem fold_D (u : Nat) : u ≤ 1000 → ∀ l : List Int, (D u).foldl nstep (l ++ [0]) = l ++ [(u : Int)] := by
  induction u using Nat.strongRecOn with
  | _ u ih =>
    intro hu l
    by_cases h : u < 10
    · rw [D_small h, List.foldl_cons, List.foldl_nil, nstep_last l 0 u h (by omega) (by omega)]
      simp
    · rw [D_big (by omega), List.foldl_append, ih (u / 10) (by omega) (by omega) l, List.foldl_cons, List.foldl_nil, nstep_last l _ _ (by omega) (by omega) (by omega)]
      congr 2; omega
theorem nstep_46 (l : List Int) : nstep l 46 = l ++ [0] := by unfold nstep; rw [if_neg (by decide)]
theorem fold_tx {a : Nat} (ha : a < 4294967296) : (tx a).foldl nstep [0] = [((a / 16777216 : Nat) : Int), ((a / 65536 % 256 : Nat) : Int), ((a / 256 % 256 : Nat) : Int), ((a % 256 : Nat) : Int)] := by
  unfold tx
  rw [List.foldl_append, show ([0] : List Int) = [] ++ [0] from rfl, fold_D _ (by omega), List.foldl_cons, nstep_46, List.foldl_append, fold_D _ (by omega), List.foldl_cons, nstep_46, List.foldl_append, fold_D _ (by omega), List.foldl_cons, nstep_46, fold_D _ (by omega)]
  rfl
/-- An address of four numbers. -/
def sum4 (x6 x7 x8 x9 : Int) : Int := (IntKind.wrap .u32 ((IntKind.wrap .u32 ((IntKind.wrap .u32 ((IntKind.wrap .u32 ((IntKind.wrap .u32 x6) * 16777216)) + (IntKind.wrap .u32 ((IntKind.wrap .u32 x7) * 65536)))) + (IntKind.wrap .u32 ((IntKind.wrap .u32 x8) * 256)))) + (IntKind.wrap .u32 x9)))
theorem sum4_u (a b c d : Int) : U32 (sum4 a b c d) := by
  unfold sum4 U32
  rw [IntKind.wrap_u32]; omega
theorem sum4_eq {a : Nat} (ha : a < 4294967296) : sum4 ((a / 16777216 : Nat) : Int) ((a / 65536 % 256 : Nat) : Int) ((a / 256 % 256 : Nat) : Int) ((a % 256 : Nat) : Int) = a := by
  unfold sum4
  have h3 : a / 16777216 < 256 := by omega
  have h2 : a / 65536 % 256 < 256 := by omega
  have h1 : a / 256 % 256 < 256 := by omega
  have h0 : a % 256 < 256 := by omega
  have e : a = a / 16777216 * 16777216 + a / 65536 % 256 * 65536 + a / 256 % 256 * 256 + a % 256 := by omega
  generalize a / 16777216 = x at *
  generalize a / 65536 % 256 = y at *
  generalize a / 256 % 256 = z at *
  generalize a % 256 = t at *
  subst e
  simp (disch := omega) only [i64_in, u64_in, u32_in, u8_in, u16_in, Option.bind_some, Option.bind_none, Option.bind_eq_bind, ↓Bool.cond_eq_ite, decide_eq_true_eq, beq_iff_eq, bne_iff_ne, ne_eq, Bool.not_eq_true', Bool.not_eq_true, Bool.not_eq_false', Bool.not_not, decide_eq_false_iff_not, if_pos, if_neg, reduceIte, not_true_eq_false, not_false_eq_true, Bool.false_eq_true, Bool.true_eq_false, reduceCtorEq]
  omega
end Go.Lv.Ld
namespace Go.Lv.Ld
set_option linter.all false
open Go Go.Lv Go.IntWalk
set_option linter.unusedVariables false
set_option linter.unusedSimpArgs false
set_option maxRecDepth 100000
theorem four {l : List Int} (h : l.length = 4) : ∃ a b c d, l = [a, b, c, d] := by
  match l, h with
  | [a, b, c, d], _ => exact ⟨a, b, c, d, rfl⟩
theorem rParse_pw {s : List UInt8} (h : s.length ≤ 100000) : ∃ r, lodgerref04_Parse s = some r ∧ PW s r := by
  unfold lodgerref04_Parse
  rw [bnd (numbers_eq h) rfl]
  generalize s.foldl nstep [0] = l
  cases h1 : ((List.length l : Int) != 4) with
  | true => exact ⟨_, rfl, .inl rfl⟩
  | false =>
    have hl : l.length = 4 := by simp at h1; omega
    obtain ⟨a, b, c, d, rfl⟩ := four hl
    rw [cond_false, bnd (show geti [a, b, c, d] 0 = some a from rfl) rfl]
    cases q3 : decide (a > 255) with
    | true => exact ⟨_, rfl, .inl rfl⟩
    | false =>
      rw [cond_false, bnd (show geti [a, b, c, d] 1 = some b from rfl) rfl]
      cases q2 : decide (b > 255) with
      | true => exact ⟨_, rfl, .inl rfl⟩
      | false =>
        rw [cond_false, bnd (show geti [a, b, c, d] 2 = some c from rfl) rfl]
        cases q1 : decide (c > 255) with
        | true => exact ⟨_, rfl, .inl rfl⟩
        | false =>
          rw [cond_false, bnd (show geti [a, b, c, d] 3 = some d from rfl) rfl]
          cases q0 : decide (d > 255) with
          | true => exact ⟨_, rfl, .inl rfl⟩
          | false =>
            rw [cond_false, bnd (show geti [a, b, c, d] 0 = some a from rfl) rfl, bnd (show geti [a, b, c, d] 1 = some b from rfl) rfl, bnd (show geti [a, b, c, d] 2 = some c from rfl) rfl, bnd (show geti [a, b, c, d] 3 = some d from rfl) rfl]
            show ∃ r, ((lodgerref04_Text (sum4 a b c d)).bind fun r10 => (bif (!(r10 == s)) then some (0, 2) else some (sum4 a b c d, 0))) = some r ∧ PW s r
            have hu := sum4_u a b c d
            rw [bnd (rText_eq hu) rfl]
            cases h2 : (tx (sum4 a b c d).toNat == s) with
            | false => exact ⟨_, rfl, .inl rfl⟩
            | true =>
              unfold U32 at hu
              refine ⟨_, rfl, .inr ⟨(sum4 a b c d).toNat, by omega, (beq_iff_eq.1 h2).symm, ?_⟩⟩
              rw [Int.toNat_of_nonneg hu.1]
theorem rParse_tx {a : Nat} (ha : a < 4294967296) : lodgerref04_Parse (tx a) = some ((a : Int), 0) := by
  unfold lodgerref04_Parse
  have hl := (tx_len ha).1
  rw [bnd ((numbers_eq (by omega)).trans (congrArg some (fold_tx ha))) rfl]
  refine cf rfl (bnd rfl (cf ?_ (bnd rfl (cf ?_ (bnd rfl (cf ?_ (bnd rfl (cf ?_ (bnd rfl (bnd rfl (bnd rfl (bnd rfl ?_))))))))))))
  · simp; omega
  · simp; omega
  · simp; omega
  · simp; omega
  · have hs := sum4_eq ha
    show ((lodgerref04_Text (sum4 _ _ _ _)).bind fun r10 => (bif (!(r10 == tx a)) then some (0, 2) else some (sum4 ((a / 16777216 : Nat) : Int) ((a / 65536 % 256 : Nat) : Int) ((a / 256 % 256 : Nat) : Int) ((a % 256 : Nat) : Int), 0))) = _
    rw [hs]
    refine bnd (rText_eq (by unfold U32; omega)) ?_
    rw [Int.toNat_natCast]
    exact cf (by simp) rfl
theorem rParse_ps {s : List UInt8} (h : s.length ≤ 100000) : ∃ r, lodgerref04_Parse s = some r ∧ PS s r := by
  obtain ⟨r, h1, h2⟩ := rParse_pw h
  refine ⟨r, h1, ?_⟩
  rcases h2 with rfl | h2
  · refine .inr ⟨fun a ha e => ?_, rfl⟩
    rw [e, rParse_tx ha] at h1
    simp at h1
  · exact .inl h2
-- the anchor
theorem D2 {k : Nat} (h : 10 ≤ k) (h2 : k < 100) : D k = [UInt8.ofNat (48 + k / 10), UInt8.ofNat (48 + k % 10)] := Lib.decDigits_two (by omega) h2
theorem tx_lit4 : tx 1 = [48, 46, 48, 46, 48, 46, 49] := by
  rw [tx_of (a := 1) (b3 := 0) (b2 := 0) (b1 := 0) (b0 := 1) (by omega) (by omega) (by omega) (by omega), D_small (by omega), D_small (by omega)]; rfl
end Go.Lv.Ld
