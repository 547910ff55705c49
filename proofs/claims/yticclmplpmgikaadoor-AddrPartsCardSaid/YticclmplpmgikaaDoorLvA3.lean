import Derived.Test.YticclmplpmgikaaDoorLvA2
namespace Go.Lv.Ld
set_option linter.all false
open Go Go.Lv Go.IntWalk
set_option linter.unusedVariables false
set_option linter.unusedSimpArgs false
set_option maxRecDepth 100000

/-- May a block be? -/
def mayb (b : Block) : Bool := decide (16 ≤ b.pre ∧ b.pre ≤ 32 ∧ b.base % 2 ^ (32 - b.pre).toNat = 0)
theorem pw {k : Nat} (hk : k ≤ 16) : 1 ≤ (2 : Int) ^ k ∧ (2 : Int) ^ k ≤ 65536 := by
  have h1 : 2 ^ k ≤ 2 ^ 16 := Nat.pow_le_pow_right (by omega) hk
  have h2 : 1 ≤ 2 ^ k := Nat.one_le_two_pow
  have e : (2 : Int) ^ k = ((2 ^ k : Nat) : Int) := by rw [Int.natCast_pow]; rfl
  rw [e]; omega
theorem and_mask {x : Int} (h : U32 x) {k : Nat} (hk : k ≤ 16) : bit_and .u64 x ((2 : Int) ^ k - 1) = x % 2 ^ k := by
  obtain ⟨p1, p2⟩ := pw hk
  unfold U32 at h
  have e : (2 : Int) ^ k = ((2 ^ k : Nat) : Int) := by rw [Int.natCast_pow]; rfl
  unfold bit_and
  show IntKind.wrap .u64 ((BitVec.ofInt 64 x &&& BitVec.ofInt 64 ((2 : Int) ^ k - 1)).toNat : Nat) = _
  rw [BitVec.toNat_and, ofInt64 (by omega) (by omega), ofInt64 (by omega) (by omega)]
  have e2 : ((2 : Int) ^ k - 1).toNat = 2 ^ k - 1 := by rw [e]; omega
  rw [e2, Nat.and_two_pow_sub_one_eq_mod]
  have e3 : ((x.toNat % 2 ^ k : Nat) : Int) = x % 2 ^ k := by rw [Int.natCast_emod, ← e]; congr 1; omega
  rw [e3]
  have m0 : 0 ≤ x % (2 : Int) ^ k := Int.emod_nonneg _ (by omega)
  have m1 : x % (2 : Int) ^ k < 2 ^ k := Int.emod_lt_of_pos _ (by omega)
  simp (disch := omega) only [i64_in, u64_in, u32_in, u8_in, u16_in, Option.bind_some, Option.bind_none, Option.bind_eq_bind, ↓Bool.cond_eq_ite, decide_eq_true_eq, beq_iff_eq, bne_iff_ne, ne_eq, Bool.not_eq_true', Bool.not_eq_true, Bool.not_eq_false', Bool.not_not, decide_eq_false_iff_not, if_pos, if_neg, reduceIte, not_true_eq_false, not_false_eq_true, Bool.false_eq_true, Bool.true_eq_false, reduceCtorEq]
theorem May_eq {b : Block} (h : U32 b.base) : addr_May b = some (mayb b) := by
  unfold addr_May mayb
  by_cases h1 : b.pre < 16
  · refine ct (by simpa using h1) ?_
    rw [decide_eq_false (by omega)]
  refine cf (by simpa using h1) ?_
  by_cases h2 : b.pre > 32
  · refine ct (by simpa using h2) ?_
    rw [decide_eq_false (by omega)]
  refine cf (by simpa using h2) ?_
  obtain ⟨k, hk⟩ : ∃ k : Nat, 32 - b.pre = k := ⟨(32 - b.pre).toNat, by omega⟩
  have hk16 : k ≤ 16 := by omega
  have w1 : IntKind.wrap .u64 (IntKind.wrap .i64 (32 - b.pre)) = (k : Int) := by simp (disch := omega) only [hk, i64_in, u64_in, u32_in, u8_in, u16_in, Option.bind_some, Option.bind_none, Option.bind_eq_bind, ↓Bool.cond_eq_ite, decide_eq_true_eq, beq_iff_eq, bne_iff_ne, ne_eq, Bool.not_eq_true', Bool.not_eq_true, Bool.not_eq_false', Bool.not_not, decide_eq_false_iff_not, if_pos, if_neg, reduceIte, not_true_eq_false, not_false_eq_true, Bool.false_eq_true, Bool.true_eq_false, reduceCtorEq]
  rw [w1]
  refine cf (by simp) ?_
  obtain ⟨p1, p2⟩ := pw hk16
  have w2 : shl .u64 1 (k : Int) = (2 : Int) ^ k := by
    unfold shl
    show IntKind.wrap .u64 (1 * 2 ^ (min (k : Int).toNat 64)) = _
    rw [Int.toNat_natCast, show min k 64 = k by omega, Int.one_mul]
    simp (disch := omega) only [i64_in, u64_in, u32_in, u8_in, u16_in, Option.bind_some, Option.bind_none, Option.bind_eq_bind, ↓Bool.cond_eq_ite, decide_eq_true_eq, beq_iff_eq, bne_iff_ne, ne_eq, Bool.not_eq_true', Bool.not_eq_true, Bool.not_eq_false', Bool.not_not, decide_eq_false_iff_not, if_pos, if_neg, reduceIte, not_true_eq_false, not_false_eq_true, Bool.false_eq_true, Bool.true_eq_false, reduceCtorEq]
  have w3 : IntKind.wrap .u64 ((2 : Int) ^ k - 1) = (2 : Int) ^ k - 1 := by simp (disch := omega) only [i64_in, u64_in, u32_in, u8_in, u16_in, Option.bind_some, Option.bind_none, Option.bind_eq_bind, ↓Bool.cond_eq_ite, decide_eq_true_eq, beq_iff_eq, bne_iff_ne, ne_eq, Bool.not_eq_true', Bool.not_eq_true, Bool.not_eq_false', Bool.not_not, decide_eq_false_iff_not, if_pos, if_neg, reduceIte, not_true_eq_false, not_false_eq_true, Bool.false_eq_true, Bool.true_eq_false, reduceCtorEq]
  have h' := h
  unfold U32 at h'
  have w4 : IntKind.wrap .u64 b.base = b.base := by simp (disch := omega) only [i64_in, u64_in, u32_in, u8_in, u16_in, Option.bind_some, Option.bind_none, Option.bind_eq_bind, ↓Bool.cond_eq_ite, decide_eq_true_eq, beq_iff_eq, bne_iff_ne, ne_eq, Bool.not_eq_true', Bool.not_eq_true, Bool.not_eq_false', Bool.not_not, decide_eq_false_iff_not, if_pos, if_neg, reduceIte, not_true_eq_false, not_false_eq_true, Bool.false_eq_true, Bool.true_eq_false, reduceCtorEq]
  rw [w2, w3, w4, and_mask h hk16, hk, Int.toNat_natCast]
  congr 1
  rw [Bool.eq_iff_iff]
  simp only [beq_iff_eq, decide_eq_true_eq]
  constructor
  · intro q; exact ⟨by omega, by omega, q⟩
  · intro q; exact q.2.2
/-- A block's text. -/
def btx (b : Block) : List UInt8 := tx b.base.toNat ++ 47 :: D b.pre.toNat
theorem BlockText_eq {b : Block} (h : U32 b.base) : addr_BlockText b = some (bif mayb b then (btx b, 0) else ([], 2)) := by
  unfold addr_BlockText
  refine bnd (May_eq h) ?_
  cases hm : mayb b with
  | false => rfl
  | true =>
    have hm' := hm
    unfold mayb at hm'
    simp only [decide_eq_true_eq] at hm'
    have h' := h
    unfold U32 at h'
    have hl := (@tx_len b.base.toNat (by omega)).1
    have hd := @D_len b.pre.toNat (by omega)
    refine cf rfl (bnd (Text_eq h) (ct ?_ (bnd (Itoa_eq (by omega) (by omega)) (ct ?_ ?_))))
    · simp only [decide_eq_true_eq, List.length_singleton]; omega
    · simp only [decide_eq_true_eq, List.length_append, List.length_singleton]; omega
    · unfold btx; simp

theorem splitK_w (sep : List UInt8) : ∀ (k : Nat) (s : List UInt8), (∀ w ∈ Lib.splitK sep 0 k s, w.length ≤ s.length) ∧ (Lib.splitK sep 0 k s).length ≤ k + 1
  | 0, s => by simp [Lib.splitK]
  | k + 1, s => by
    unfold Lib.splitK
    split
    · simp
    · obtain ⟨h1, h2⟩ := splitK_w sep k (s.drop ((Lib.index s sep).toNat + sep.length))
      refine ⟨fun w hw => ?_, by simp only [List.length_cons]; omega⟩
      rcases List.mem_cons.1 hw with rfl | hw
      · simp; omega
      · have := h1 w hw
        simp only [List.length_drop] at this
        omega
theorem split_w (s : List UInt8) : (∀ w ∈ Lib.split s [46], w.length ≤ s.length) ∧ (Lib.split s [46]).length ≤ s.length + 2 := by
  obtain ⟨h1, h2⟩ := splitK_w [46] (Lib.count s [46]) s
  have := Lib.count_le s [46]
  exact ⟨h1, by unfold Lib.split; omega⟩
theorem cut_w (s sep : List UInt8) : (Lib.cut s sep).1.length ≤ s.length ∧ (Lib.cut s sep).2.1.length ≤ s.length := by
  unfold Lib.cut
  split
  · simp; omega
  · simp
theorem or_u32 (x y : Int) : U32 (bit_or .u32 x y) := by
  unfold bit_or U32
  rw [IntKind.wrap_u32]
  omega
theorem geti_at {α : Type} {l : List α} {i : Int} (h0 : 0 ≤ i) (h : i < l.length) : geti l i = some (l[i.toNat]'(by omega)) := by
  unfold geti
  rw [if_pos h0, List.getElem?_eq_getElem (by omega)]
/-- What a reading comes to, if it isn't more. -/
def PW (s : List UInt8) (r : Int × Int) : Prop := r = (0, 2) ∨ ∃ a : Nat, a < 4294967296 ∧ s = tx a ∧ r = ((a : Int), 0)
theorem fin_pw {ws : List (List UInt8)} {s : List UInt8} {acc : Int} (ha : U32 acc) :
    ∃ r, (bif ((List.length ws : Int) != 4) then some (0, 2) else ((addr_Text acc).bind fun r7 => (bif (!(r7 == s)) then some (0, 2) else some (acc, 0)))) = some r ∧ PW s r := by
  cases h1 : ((List.length ws : Int) != 4) with
  | true => exact ⟨_, rfl, .inl rfl⟩
  | false =>
    rw [Text_eq ha]
    simp only [Option.bind_some, cond_false]
    cases h2 : (tx acc.toNat == s) with
    | false => exact ⟨_, rfl, .inl rfl⟩
    | true =>
      unfold U32 at ha
      refine ⟨_, rfl, .inr ⟨acc.toNat, by omega, (beq_iff_eq.1 h2).symm, ?_⟩⟩
      rw [Int.toNat_of_nonneg ha.1]
theorem Parse_l (s : List UInt8) (ws : List (List UInt8)) (hw : ∀ w ∈ ws, w.length ≤ 1000000) (hl : ws.length ≤ 1000000) : ∀ (d n : Nat) (acc i : Int), d < n → U32 acc → 0 ≤ i → (ws.length : Int) - i ≤ d →
    ∃ r, addr_Parse_l0 n s ws acc ws (ws.length : Int) i = some r ∧ PW s r
  | d, n + 1, acc, i, hn, ha, hi, hd => by
    rw [su0_addr_Parse]
    unfold addr_Parse_s0
    by_cases hlt : i < ws.length
    · rw [ct (decide_eq_true hlt) rfl, bnd (geti_at hi hlt) rfl]
      obtain ⟨r3, h3⟩ := Atoi_some (hw _ (List.getElem_mem (by omega : i.toNat < ws.length)))
      rw [bnd h3 rfl]
      cases hr : r3.2 with
      | true => exact fin_pw ha
      | false =>
        rw [cond_false]
        cases h4 : decide (r3.1 < 0) with
        | true => exact fin_pw ha
        | false =>
          rw [cond_false]
          cases h5 : decide (r3.1 > 255) with
          | true => exact fin_pw ha
          | false =>
            rw [cond_false]
            have : IntKind.wrap .i64 (i + 1) = i + 1 := by simp (disch := omega) only [i64_in, u64_in, u32_in, u8_in, u16_in, Option.bind_some, Option.bind_none, Option.bind_eq_bind, ↓Bool.cond_eq_ite, decide_eq_true_eq, beq_iff_eq, bne_iff_ne, ne_eq, Bool.not_eq_true', Bool.not_eq_true, Bool.not_eq_false', Bool.not_not, decide_eq_false_iff_not, if_pos, if_neg, reduceIte, not_true_eq_false, not_false_eq_true, Bool.false_eq_true, Bool.true_eq_false, reduceCtorEq]
            rw [this]
            cases d with
            | zero => omega
            | succ d => exact Parse_l s ws hw hl d n _ (i + 1) (by omega) (or_u32 _ _) (by omega) (by omega)
    · rw [cf (decide_eq_false hlt) rfl]
      exact fin_pw ha
theorem Split_eq {s : List UInt8} (h : s.length ≤ 1000) : strings_Split s [46] = some (Lib.split s [46]) := by
  unfold strings_Split
  rw [if_pos (by simp; omega)]
theorem Parse_pw {s : List UInt8} (h : s.length ≤ 1000) : ∃ r, addr_Parse s = some r ∧ PW s r := by
  show ∃ r, addr_Parse_n big s = some r ∧ _
  unfold addr_Parse_n addr_Parse_e
  rw [bnd (Split_eq h) rfl]
  obtain ⟨h1, h2⟩ := split_w s
  exact Parse_l s _ (fun w hw => by have := h1 w hw; omega) (by omega) (Lib.split s [46]).length big 0 0 (by unfold big; omega) (by unfold U32; omega) (by omega) (by omega)
theorem or_add {acc b : Int} (h0 : 0 ≤ acc) (h1 : acc < 16777216) (b0 : 0 ≤ b) (b1 : b < 256) : bit_or .u32 (shl .u32 acc 8) (IntKind.wrap .u32 b) = acc * 256 + b := by
  have e1 : shl .u32 acc 8 = acc * 256 := by
    unfold shl
    show IntKind.wrap .u32 (acc * 2 ^ (min (8 : Int).toNat 32)) = _
    rw [show (2 : Int) ^ (min (8 : Int).toNat 32) = 256 by decide]
    simp (disch := omega) only [i64_in, u64_in, u32_in, u8_in, u16_in, Option.bind_some, Option.bind_none, Option.bind_eq_bind, ↓Bool.cond_eq_ite, decide_eq_true_eq, beq_iff_eq, bne_iff_ne, ne_eq, Bool.not_eq_true', Bool.not_eq_true, Bool.not_eq_false', Bool.not_not, decide_eq_false_iff_not, if_pos, if_neg, reduceIte, not_true_eq_false, not_false_eq_true, Bool.false_eq_true, Bool.true_eq_false, reduceCtorEq]
  have e2 : IntKind.wrap .u32 b = b := by simp (disch := omega) only [i64_in, u64_in, u32_in, u8_in, u16_in, Option.bind_some, Option.bind_none, Option.bind_eq_bind, ↓Bool.cond_eq_ite, decide_eq_true_eq, beq_iff_eq, bne_iff_ne, ne_eq, Bool.not_eq_true', Bool.not_eq_true, Bool.not_eq_false', Bool.not_not, decide_eq_false_iff_not, if_pos, if_neg, reduceIte, not_true_eq_false, not_false_eq_true, Bool.false_eq_true, Bool.true_eq_false, reduceCtorEq]
  rw [e1, e2]
  unfold bit_or
  show IntKind.wrap .u32 ((BitVec.ofInt 32 (acc * 256) ||| BitVec.ofInt 32 b).toNat : Nat) = _
  rw [BitVec.toNat_or, ofInt32 (by unfold U32; omega), ofInt32 (by unfold U32; omega)]
  have e3 : (acc * 256).toNat ||| b.toNat = acc.toNat * 256 + b.toNat := by
    rw [show (acc * 256).toNat = 2 ^ 8 * acc.toNat by omega, ← Nat.two_pow_add_eq_or_of_lt (by omega)]
    omega
  rw [e3]
  have : IntKind.wrap .u32 ((acc.toNat * 256 + b.toNat : Nat) : Int) = ((acc.toNat * 256 + b.toNat : Nat) : Int) := by simp (disch := omega) only [i64_in, u64_in, u32_in, u8_in, u16_in, Option.bind_some, Option.bind_none, Option.bind_eq_bind, ↓Bool.cond_eq_ite, decide_eq_true_eq, beq_iff_eq, bne_iff_ne, ne_eq, Bool.not_eq_true', Bool.not_eq_true, Bool.not_eq_false', Bool.not_not, decide_eq_false_iff_not, if_pos, if_neg, reduceIte, not_true_eq_false, not_false_eq_true, Bool.false_eq_true, Bool.true_eq_false, reduceCtorEq]
  rw [this]; omega
theorem Parse_r {s : List UInt8} {ws : List (List UInt8)} {acc i : Int} {b : Nat} (n : Nat) (h0 : 0 ≤ acc) (h1 : acc < 16777216) (hb : b < 256) (hi : decide (i < (ws.length : Int)) = true) (hg : geti ws i = some (D b)) (hx : IntKind.wrap .i64 (i + 1) = i + 1) :
    addr_Parse_l0 (n + 1) s ws acc ws (ws.length : Int) i = addr_Parse_l0 n s ws (acc * 256 + b) ws (ws.length : Int) (i + 1) := by
  rw [su0_addr_Parse]
  unfold addr_Parse_s0
  refine ct hi (bnd hg (bnd (Atoi_D (by omega)) (cf rfl (cf ?_ (cf ?_ ?_)))))
  · simp
  · simp; omega
  · rw [hx, or_add h0 h1 (by omega) (by omega)]
theorem Parse_tx {a : Nat} (ha : a < 4294967296) : addr_Parse (tx a) = some ((a : Int), 0) := by
  show addr_Parse_n big (tx a) = _
  unfold addr_Parse_n addr_Parse_e
  have hl := (tx_len ha).1
  rw [bnd (Split_eq (by omega)) rfl, tx_split]
  show addr_Parse_l0 (4611686018427387899 + 5) _ _ 0 _ _ 0 = _
  generalize 4611686018427387899 = n
  rw [Parse_r (b := a / 16777216) (n + 4) (by omega) (by omega) (by omega) rfl rfl (by decide),
    Parse_r (b := a / 65536 % 256) (n + 3) (by omega) (by omega) (by omega) rfl rfl (by decide),
    Parse_r (b := a / 256 % 256) (n + 2) (by omega) (by omega) (by omega) rfl rfl (by decide),
    Parse_r (b := a % 256) (n + 1) (by omega) (by omega) (by omega) rfl rfl (by decide), su0_addr_Parse]
  unfold addr_Parse_s0
  have e : (((0 * 256 + ((a / 16777216 : Nat) : Int)) * 256 + ((a / 65536 % 256 : Nat) : Int)) * 256 + ((a / 256 % 256 : Nat) : Int)) * 256 + ((a % 256 : Nat) : Int) = (a : Int) := by omega
  rw [e]
  refine cf rfl (cf rfl (bnd (Text_eq (by unfold U32; omega)) ?_))
  rw [Int.toNat_natCast]
  exact cf (by simp) rfl
/-- The reading of a text. -/
def PS (s : List UInt8) (r : Int × Int) : Prop := (∃ a : Nat, a < 4294967296 ∧ s = tx a ∧ r = ((a : Int), 0)) ∨ ((∀ a : Nat, a < 4294967296 → s ≠ tx a) ∧ r = (0, 2))
theorem Parse_ps {s : List UInt8} (h : s.length ≤ 1000) : ∃ r, addr_Parse s = some r ∧ PS s r := by
  obtain ⟨r, h1, h2⟩ := Parse_pw h
  refine ⟨r, h1, ?_⟩
  rcases h2 with rfl | h2
  · refine .inr ⟨fun a ha e => ?_, rfl⟩
    rw [e, Parse_tx ha] at h1
    simp at h1
  · exact .inl h2
theorem PS_uniq {s : List UInt8} {r r' : Int × Int} (h : PS s r) (h' : PS s r') : r = r' := by
  rcases h with ⟨a, ha, e, rfl⟩ | ⟨h, rfl⟩ <;> rcases h' with ⟨b, hb, e', rfl⟩ | ⟨h', rfl⟩
  · rw [tx_inj ha hb (e.symm.trans e')]
  · exact absurd e (h' a ha)
  · exact absurd e' (h b hb)
  · rfl
theorem PS_u32 {s : List UInt8} {r : Int × Int} (h : PS s r) : U32 r.1 := by
  unfold U32
  rcases h with ⟨a, ha, _, rfl⟩ | ⟨_, rfl⟩
  · simp; omega
  · simp
def BK (b : Block) : Prop := U32 b.base ∧ mayb b = true
theorem BK_pre {b : Block} (h : BK b) : 16 ≤ b.pre ∧ b.pre ≤ 32 := by
  have := h.2
  unfold mayb at this
  simp only [decide_eq_true_eq] at this
  omega
/-- The reading of a block's text. -/
def PB (s : List UInt8) (r : Block × Int) : Prop := (∃ b, BK b ∧ s = btx b ∧ r = (b, 0)) ∨ ((∀ b, BK b → s ≠ btx b) ∧ r = (⟨0, 0⟩, 2))
theorem btx_inj {b c : Block} (hb : BK b) (hc : BK c) (e : btx b = btx c) : b = c := by
  unfold btx at e
  obtain ⟨e1, e2⟩ := uniq (tx_no47 _) (tx_no47 _) e
  have p1 := BK_pre hb
  have p2 := BK_pre hc
  have u1 := hb.1
  have u2 := hc.1
  unfold U32 at u1 u2
  have q1 := tx_inj (by omega) (by omega) e1
  have q2 := D_inj (by omega) (by omega) e2
  obtain ⟨bb, bp⟩ := b
  obtain ⟨cb, cp⟩ := c
  simp only at *
  rw [show bb = cb by omega, show bp = cp by omega]
theorem Cut_eq {s : List UInt8} (h : s.length ≤ 1000) : strings_Cut s [47] = some (Lib.cut s [47]) := by
  unfold strings_Cut
  rw [if_pos (by simp; omega)]
theorem ParseBlock_btx {b : Block} (h : BK b) : addr_ParseBlock (btx b) = some (b, 0) := by
  have p := BK_pre h
  have u := h.1
  have u' := u
  unfold U32 at u'
  have hl := (@tx_len b.base.toNat (by omega)).1
  have hd := @D_len b.pre.toNat (by omega)
  unfold addr_ParseBlock
  have hc : strings_Cut (btx b) [47] = some (tx b.base.toNat, D b.pre.toNat, true) := by
    rw [Cut_eq (by unfold btx; simp; omega)]
    unfold btx
    rw [cut_app (tx_no47 _)]
  refine bnd hc (bnd (Parse_tx (by omega)) (bnd (Atoi_D (by omega)) ?_))
  have eb : (⟨((b.base.toNat : Nat) : Int), ((b.pre.toNat : Nat) : Int)⟩ : Block) = b := by
    rw [Int.toNat_of_nonneg u'.1, Int.toNat_of_nonneg (by omega)]
  simp only [eb]
  refine bnd (BlockText_eq u) ?_
  rw [h.2]
  exact cf rfl (cf rfl (cf rfl (cf (by simp) rfl)))
theorem ParseBlock_pb {s : List UInt8} (h : s.length ≤ 1000) : ∃ r, addr_ParseBlock s = some r ∧ PB s r := by
  have key : ∃ r, addr_ParseBlock s = some r ∧ (r = (⟨0, 0⟩, 2) ∨ ∃ b, BK b ∧ s = btx b ∧ r = (b, 0)) := by
    unfold addr_ParseBlock
    obtain ⟨c1, c2⟩ := cut_w s [47]
    rw [bnd (Cut_eq h) rfl]
    obtain ⟨r2, h2, hp⟩ := Parse_ps (s := (Lib.cut s [47]).1) (by omega)
    rw [bnd h2 rfl]
    obtain ⟨r3, h3⟩ := Atoi_some (s := (Lib.cut s [47]).2.1) (by omega)
    rw [bnd h3 rfl, bnd (BlockText_eq (b := ⟨r2.1, r3.1⟩) (PS_u32 hp)) rfl]
    cases q1 : (r2.2 != 0) with
    | true => exact ⟨_, rfl, .inl rfl⟩
    | false =>
      cases q2 : r3.2 with
      | true => exact ⟨_, rfl, .inl rfl⟩
      | false =>
        cases q3 : mayb ⟨r2.1, r3.1⟩ with
        | false => exact ⟨_, rfl, .inl rfl⟩
        | true =>
          simp only [cond_true, cond_false, bne_self_eq_false]
          cases q4 : (btx ⟨r2.1, r3.1⟩ == s) with
          | false => exact ⟨_, rfl, .inl rfl⟩
          | true => exact ⟨_, rfl, .inr ⟨_, ⟨PS_u32 hp, q3⟩, (beq_iff_eq.1 q4).symm, rfl⟩⟩
  obtain ⟨r, h1, h2⟩ := key
  refine ⟨r, h1, ?_⟩
  rcases h2 with rfl | h2
  · refine .inr ⟨fun b hb e => ?_, rfl⟩
    rw [e, ParseBlock_btx hb] at h1
    simp at h1
  · exact .inl h2
theorem PB_uniq {s : List UInt8} {r r' : Block × Int} (h : PB s r) (h' : PB s r') : r = r' := by
  rcases h with ⟨a, ha, e, rfl⟩ | ⟨h, rfl⟩ <;> rcases h' with ⟨b, hb, e', rfl⟩ | ⟨h', rfl⟩
  · rw [btx_inj ha hb (e.symm.trans e')]
  · exact absurd e (h' a ha)
  · exact absurd e' (h b hb)
  · rfl
end Go.Lv.Ld
