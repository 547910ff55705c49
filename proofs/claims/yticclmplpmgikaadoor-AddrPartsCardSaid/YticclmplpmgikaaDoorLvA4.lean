import Derived.Test.YticclmplpmgikaaDoorLvA3
namespace Go.Lv.Ld
set_option linter.all false
open Go Go.Lv Go.IntWalk
set_option linter.unusedVariables false
set_option linter.unusedSimpArgs false
set_option maxRecDepth 100000

theorem strOf1 (x : Int) : strOf [x] = [UInt8.ofNat x.toNat] := rfl
theorem dig1 {k : Int} (h0 : 0 ≤ k) (h1 : k < 10) : strOf [IntKind.wrap .u8 (IntKind.wrap .i64 (48 + k))] = [UInt8.ofNat (48 + k.toNat)] := by
  have : IntKind.wrap .u8 (IntKind.wrap .i64 (48 + k)) = 48 + k := by simp (disch := omega) only [i64_in, u64_in, u32_in, u8_in, u16_in, Option.bind_some, Option.bind_none, Option.bind_eq_bind, ↓Bool.cond_eq_ite, decide_eq_true_eq, beq_iff_eq, bne_iff_ne, ne_eq, Bool.not_eq_true', Bool.not_eq_true, Bool.not_eq_false', Bool.not_not, decide_eq_false_iff_not, if_pos, if_neg, reduceIte, not_true_eq_false, not_false_eq_true, Bool.false_eq_true, Bool.true_eq_false, reduceCtorEq]
  rw [this, strOf1, show (48 + k).toNat = 48 + k.toNat by omega]
theorem dec_l (u : Nat) : u < 1000000000000000 → ∀ f, u < f → lodgerref04_dec_r f (u : Int) = some (D u) := by
  induction u using Nat.strongRecOn with
  | _ u ih =>
    intro hu f hf
    obtain ⟨f, rfl⟩ : ∃ g, f = g + 1 := ⟨f - 1, by omega⟩
    rw [lodgerref04_dec_ru]
    unfold lodgerref04_dec_b
    by_cases h : u < 10
    · refine ct (by simp; omega) ?_
      rw [dig1 (by omega) (by omega), D_small h]; rfl
    · refine cf (by simp; omega) ?_
      have e1 : IntKind.wrap .i64 (Int.tdiv (u : Int) 10) = ((u / 10 : Nat) : Int) := by
        rw [Int.tdiv_eq_ediv_of_nonneg (by omega)]
        have : ((u / 10 : Nat) : Int) = (u : Int) / 10 := by omega
        rw [this]; simp (disch := omega) only [i64_in, u64_in, u32_in, u8_in, u16_in, Option.bind_some, Option.bind_none, Option.bind_eq_bind, ↓Bool.cond_eq_ite, decide_eq_true_eq, beq_iff_eq, bne_iff_ne, ne_eq, Bool.not_eq_true', Bool.not_eq_true, Bool.not_eq_false', Bool.not_not, decide_eq_false_iff_not, if_pos, if_neg, reduceIte, not_true_eq_false, not_false_eq_true, Bool.false_eq_true, Bool.true_eq_false, reduceCtorEq]
      have e2 : Int.tmod (u : Int) 10 = (u : Int) % 10 := Int.tmod_eq_emod_of_nonneg (by omega)
      rw [e1, e2, dig1 (by omega) (by omega)]
      refine bnd (ih (u / 10) (by omega) (by omega) f (by omega)) ?_
      have hlen : (D (u / 10)).length ≤ 1000000 := by
        unfold D
        rw [Lib.decDigits_length]
        have : Lib.nDigits (u / 10) ≤ 20 := by
          by_cases q : u / 10 = 0
          · rw [q, Lib.nDigits_small (by omega)]; omega
          · have := Lib.numDigits_eq (u / 10) (by omega) (by omega)
            split at this <;> omega
        omega
      refine ct (by simp; omega) ?_
      rw [D_big (u := u) (by omega), show ((u : Int) % 10).toNat = u % 10 by omega]
theorem dec_eq {n : Int} (h0 : 0 ≤ n) (h1 : n < 1000000000000000) : lodgerref04_dec n = some (D n.toNat) := by
  unfold lodgerref04_dec
  have := dec_l n.toNat (by omega) big (by unfold big; omega)
  rwa [Int.toNat_of_nonneg h0] at this
theorem rText_eq {a : Int} (ha : U32 a) : lodgerref04_Text a = some (tx a.toNat) := by
  unfold U32 at ha
  unfold lodgerref04_Text
  have e3 : IntKind.wrap .i64 (IntKind.wrap .u32 (Int.tdiv a 16777216)) = a / 16777216 := by
    rw [Int.tdiv_eq_ediv_of_nonneg (by omega)]; simp (disch := omega) only [i64_in, u64_in, u32_in, u8_in, u16_in, Option.bind_some, Option.bind_none, Option.bind_eq_bind, ↓Bool.cond_eq_ite, decide_eq_true_eq, beq_iff_eq, bne_iff_ne, ne_eq, Bool.not_eq_true', Bool.not_eq_true, Bool.not_eq_false', Bool.not_not, decide_eq_false_iff_not, if_pos, if_neg, reduceIte, not_true_eq_false, not_false_eq_true, Bool.false_eq_true, Bool.true_eq_false, reduceCtorEq]
  have e2 : IntKind.wrap .i64 (Int.tmod (IntKind.wrap .u32 (Int.tdiv a 65536)) 256) = a / 65536 % 256 := by
    rw [Int.tdiv_eq_ediv_of_nonneg (by omega)]
    have : IntKind.wrap .u32 (a / 65536) = a / 65536 := by simp (disch := omega) only [i64_in, u64_in, u32_in, u8_in, u16_in, Option.bind_some, Option.bind_none, Option.bind_eq_bind, ↓Bool.cond_eq_ite, decide_eq_true_eq, beq_iff_eq, bne_iff_ne, ne_eq, Bool.not_eq_true', Bool.not_eq_true, Bool.not_eq_false', Bool.not_not, decide_eq_false_iff_not, if_pos, if_neg, reduceIte, not_true_eq_false, not_false_eq_true, Bool.false_eq_true, Bool.true_eq_false, reduceCtorEq]
    rw [this, Int.tmod_eq_emod_of_nonneg (by omega)]; simp (disch := omega) only [i64_in, u64_in, u32_in, u8_in, u16_in, Option.bind_some, Option.bind_none, Option.bind_eq_bind, ↓Bool.cond_eq_ite, decide_eq_true_eq, beq_iff_eq, bne_iff_ne, ne_eq, Bool.not_eq_true', Bool.not_eq_true, Bool.not_eq_false', Bool.not_not, decide_eq_false_iff_not, if_pos, if_neg, reduceIte, not_true_eq_false, not_false_eq_true, Bool.false_eq_true, Bool.true_eq_false, reduceCtorEq]
  have e1 : IntKind.wrap .i64 (Int.tmod (IntKind.wrap .u32 (Int.tdiv a 256)) 256) = a / 256 % 256 := by
    rw [Int.tdiv_eq_ediv_of_nonneg (by omega)]
    have : IntKind.wrap .u32 (a / 256) = a / 256 := by simp (disch := omega) only [i64_in, u64_in, u32_in, u8_in, u16_in, Option.bind_some, Option.bind_none, Option.bind_eq_bind, ↓Bool.cond_eq_ite, decide_eq_true_eq, beq_iff_eq, bne_iff_ne, ne_eq, Bool.not_eq_true', Bool.not_eq_true, Bool.not_eq_false', Bool.not_not, decide_eq_false_iff_not, if_pos, if_neg, reduceIte, not_true_eq_false, not_false_eq_true, Bool.false_eq_true, Bool.true_eq_false, reduceCtorEq]
    rw [this, Int.tmod_eq_emod_of_nonneg (by omega)]; simp (disch := omega) only [i64_in, u64_in, u32_in, u8_in, u16_in, Option.bind_some, Option.bind_none, Option.bind_eq_bind, ↓Bool.cond_eq_ite, decide_eq_true_eq, beq_iff_eq, bne_iff_ne, ne_eq, Bool.not_eq_true', Bool.not_eq_true, Bool.not_eq_false', Bool.not_not, decide_eq_false_iff_not, if_pos, if_neg, reduceIte, not_true_eq_false, not_false_eq_true, Bool.false_eq_true, Bool.true_eq_false, reduceCtorEq]
  have e0 : IntKind.wrap .i64 (Int.tmod a 256) = a % 256 := by
    rw [Int.tmod_eq_emod_of_nonneg (by omega)]; simp (disch := omega) only [i64_in, u64_in, u32_in, u8_in, u16_in, Option.bind_some, Option.bind_none, Option.bind_eq_bind, ↓Bool.cond_eq_ite, decide_eq_true_eq, beq_iff_eq, bne_iff_ne, ne_eq, Bool.not_eq_true', Bool.not_eq_true, Bool.not_eq_false', Bool.not_not, decide_eq_false_iff_not, if_pos, if_neg, reduceIte, not_true_eq_false, not_false_eq_true, Bool.false_eq_true, Bool.true_eq_false, reduceCtorEq]
  rw [e3, e2, e1, e0]
  have l3 := @D_len (a / 16777216).toNat (by omega)
  have l2 := @D_len (a / 65536 % 256).toNat (by omega)
  have l1 := @D_len (a / 256 % 256).toNat (by omega)
  have l0 := @D_len (a % 256).toNat (by omega)
  refine bnd (dec_eq (by omega) (by omega)) (ct ?_ (bnd (dec_eq (by omega) (by omega)) (ct ?_ (ct ?_ (bnd (dec_eq (by omega) (by omega)) (ct ?_ (ct ?_ (bnd (dec_eq (by omega) (by omega)) (ct ?_ ?_)))))))))
  rotate_right
  · unfold tx
    rw [show (a / 16777216).toNat = a.toNat / 16777216 by omega, show (a / 65536 % 256).toNat = a.toNat / 65536 % 256 by omega, show (a / 256 % 256).toNat = a.toNat / 256 % 256 by omega, show (a % 256).toNat = a.toNat % 256 by omega]
    simp
  all_goals (simp only [decide_eq_true_eq, List.length_append, List.length_singleton]; omega)
theorem Many_l : ∀ (d n : Nat) (acc i : Int), d ≤ 100 → d < n → i = 32 - (d : Int) → 0 ≤ acc → acc * 2 ^ d ≤ 1000000 → lodgerref04_Many_l0 n acc i = some (acc * 2 ^ d)
  | 0, n + 1, acc, i, _, hn, hi, h0, h1 => by
    rw [su0_lodgerref04_Many]
    unfold lodgerref04_Many_s0
    refine cf (by simp; omega) ?_
    simp
  | d + 1, n + 1, acc, i, h100, hn, hi, h0, h1 => by
    rw [su0_lodgerref04_Many]
    unfold lodgerref04_Many_s0
    have hp : (1 : Int) ≤ 2 ^ d := by
      have : 1 ≤ 2 ^ d := Nat.one_le_two_pow
      have e : (2 : Int) ^ d = ((2 ^ d : Nat) : Int) := by rw [Int.natCast_pow]; rfl
      rw [e]; omega
    have e : acc * 2 ^ (d + 1) = 2 * acc * 2 ^ d := by rw [Int.pow_succ]; ac_rfl
    rw [e] at h1
    have hle : 2 * acc ≤ 2 * acc * 2 ^ d := by
      have := Int.mul_le_mul_of_nonneg_left hp (show 0 ≤ 2 * acc by omega)
      omega
    have w1 : IntKind.wrap .i64 (2 * acc) = 2 * acc := by simp (disch := omega) only [i64_in, u64_in, u32_in, u8_in, u16_in, Option.bind_some, Option.bind_none, Option.bind_eq_bind, ↓Bool.cond_eq_ite, decide_eq_true_eq, beq_iff_eq, bne_iff_ne, ne_eq, Bool.not_eq_true', Bool.not_eq_true, Bool.not_eq_false', Bool.not_not, decide_eq_false_iff_not, if_pos, if_neg, reduceIte, not_true_eq_false, not_false_eq_true, Bool.false_eq_true, Bool.true_eq_false, reduceCtorEq]
    have w2 : IntKind.wrap .i64 (i + 1) = i + 1 := by simp (disch := omega) only [i64_in, u64_in, u32_in, u8_in, u16_in, Option.bind_some, Option.bind_none, Option.bind_eq_bind, ↓Bool.cond_eq_ite, decide_eq_true_eq, beq_iff_eq, bne_iff_ne, ne_eq, Bool.not_eq_true', Bool.not_eq_true, Bool.not_eq_false', Bool.not_not, decide_eq_false_iff_not, if_pos, if_neg, reduceIte, not_true_eq_false, not_false_eq_true, Bool.false_eq_true, Bool.true_eq_false, reduceCtorEq]
    rw [w1, w2, e]
    exact ct (by simp; omega) (Many_l d n (2 * acc) (i + 1) (by omega) (by omega) (by omega) (by omega) h1)
theorem Many_eq {p : Int} (h0 : 16 ≤ p) (h1 : p ≤ 32) : lodgerref04_Many p = some (2 ^ (32 - p).toNat) := by
  show lodgerref04_Many_n big p = _
  unfold lodgerref04_Many_n lodgerref04_Many_e
  have hp := (pw (k := (32 - p).toNat) (by omega)).2
  rw [Many_l (32 - p).toNat big 1 p (by omega) (by unfold big; omega) (by omega) (by omega) (by omega), Int.one_mul]
theorem rMay_eq {b : Block} (h : U32 b.base) : lodgerref04_May b = some (mayb b) := by
  unfold lodgerref04_May mayb
  by_cases h1 : 16 ≤ b.pre
  · refine ct (by simpa using h1) ?_
    by_cases h2 : b.pre ≤ 32
    · refine ct (by simpa using h2) (bnd (Many_eq h1 h2) ?_)
      obtain ⟨p1, p2⟩ := pw (k := (32 - b.pre).toNat) (by omega)
      refine cf (beq_eq_false_iff_ne.2 (by omega)) ?_
      have h' := h
      unfold U32 at h'
      have w : IntKind.wrap .i64 b.base = b.base := by simp (disch := omega) only [i64_in, u64_in, u32_in, u8_in, u16_in, Option.bind_some, Option.bind_none, Option.bind_eq_bind, ↓Bool.cond_eq_ite, decide_eq_true_eq, beq_iff_eq, bne_iff_ne, ne_eq, Bool.not_eq_true', Bool.not_eq_true, Bool.not_eq_false', Bool.not_not, decide_eq_false_iff_not, if_pos, if_neg, reduceIte, not_true_eq_false, not_false_eq_true, Bool.false_eq_true, Bool.true_eq_false, reduceCtorEq]
      rw [w, Int.tmod_eq_emod_of_nonneg (by omega)]
      congr 1
      rw [Bool.eq_iff_iff]
      simp only [beq_iff_eq, decide_eq_true_eq]
      exact ⟨fun q => ⟨h1, h2, q⟩, fun q => q.2.2⟩
    · refine cf (by simpa using h2) ?_
      rw [decide_eq_false (by omega)]
  · refine cf (by simpa using h1) ?_
    rw [decide_eq_false (by omega)]
theorem rBlockText_eq {b : Block} (h : U32 b.base) : lodgerref04_BlockText b = some (bif mayb b then (btx b, 0) else ([], 2)) := by
  unfold lodgerref04_BlockText
  refine bnd (rMay_eq h) ?_
  cases hm : mayb b with
  | false => rfl
  | true =>
    have hm' := hm
    unfold mayb at hm'
    simp only [decide_eq_true_eq] at hm'
    have h' := h
    unfold U32 at h'
    have hl := (@tx_len b.base.toNat (by omega)).1
    have hd := @D_len b.pre.toNat (by omega)
    refine cf rfl (bnd (rText_eq h) (ct ?_ (bnd (dec_eq (by omega) (by omega)) (ct ?_ ?_))))
    · simp only [decide_eq_true_eq, List.length_singleton]; omega
    · simp only [decide_eq_true_eq, List.length_append, List.length_singleton]; omega
    · unfold btx; simp

/-- One byte of a text: the last number grows, or another one begins. -/
def nstep (l : List Int) (c : UInt8) : List Int := if 48 ≤ c.toNat ∧ c.toNat ≤ 57 then l.set (l.length - 1) (mm false (10 * l.getD (l.length - 1) 0 + c.toNat - 48) 100000) else l ++ [0]
theorem mm_r {x : Int} (h : 0 ≤ x) : 0 ≤ mm false x 100000 ∧ mm false x 100000 ≤ 100000 := by
  unfold mm
  simp only [Bool.false_eq_true, if_false]
  split <;> omega
theorem numbers_l (s : List UInt8) (hs : s.length ≤ 1000) : ∀ (d n : Nat) (i : Int) (l : List Int), d < n → 0 ≤ i → (s.length : Int) - i = d → l ≠ [] → (∀ x ∈ l, 0 ≤ x ∧ x ≤ 100000) → l.length + d ≤ 5000 →
    lodgerref04_numbers_l0 n s i l = some ((s.drop i.toNat).foldl nstep l)
  | 0, n + 1, i, l, hn, hi, hd, hl, hx, hL => by
    rw [su0_lodgerref04_numbers]
    unfold lodgerref04_numbers_s0
    refine cf (by simp; omega) ?_
    rw [List.drop_eq_nil_of_le (by omega)]; rfl
  | d + 1, n + 1, i, l, hn, hi, hd, hl, hx, hL => by
    have hlt : i < s.length := by omega
    have hg := geti_at hi hlt
    have hdr : s.drop i.toNat = s[i.toNat]'(by omega) :: s.drop (i + 1).toNat := by
      rw [List.drop_eq_getElem_cons (by omega), show (i + 1).toNat = i.toNat + 1 by omega]
    have hpos : 0 < l.length := List.length_pos_iff.2 hl
    generalize s[i.toNat]'(by omega) = c at hg hdr
    have w2 : IntKind.wrap .i64 (i + 1) = i + 1 := by simp (disch := omega) only [i64_in, u64_in, u32_in, u8_in, u16_in, Option.bind_some, Option.bind_none, Option.bind_eq_bind, ↓Bool.cond_eq_ite, decide_eq_true_eq, beq_iff_eq, bne_iff_ne, ne_eq, Bool.not_eq_true', Bool.not_eq_true, Bool.not_eq_false', Bool.not_not, decide_eq_false_iff_not, if_pos, if_neg, reduceIte, not_true_eq_false, not_false_eq_true, Bool.false_eq_true, Bool.true_eq_false, reduceCtorEq]
    have hb := c.toNat_lt
    rw [su0_lodgerref04_numbers]
    unfold lodgerref04_numbers_s0
    rw [ct (decide_eq_true hlt) rfl, bnd hg rfl, w2]
    have other : ¬ (48 ≤ c.toNat ∧ c.toNat ≤ 57) → (bif (decide (l.length + ([0] : List Int).length ≤ maxList)) then lodgerref04_numbers_l0 n s (i + 1) (l ++ ([0] : List Int)) else none) = some ((s.drop i.toNat).foldl nstep l) := by
      intro hc
      refine ct (by simp [maxList]; omega) ?_
      rw [numbers_l s hs d n (i + 1) (l ++ [0]) (by omega) (by omega) (by omega) (by simp) (fun x q => by
        rcases List.mem_append.1 q with q | q
        · exact hx x q
        · rw [List.mem_singleton] at q; omega) (by simp; omega), hdr, List.foldl_cons]
      congr 2
      unfold nstep
      rw [if_neg hc]
    by_cases h1 : 48 ≤ c.toNat
    · rw [ct (by simp; omega) rfl, bnd hg rfl]
      by_cases h2 : c.toNat ≤ 57
      · rw [ct (by simp; omega) rfl]
        have w1 : IntKind.wrap .i64 ((List.length l : Int) - 1) = (List.length l : Int) - 1 := by simp (disch := omega) only [i64_in, u64_in, u32_in, u8_in, u16_in, Option.bind_some, Option.bind_none, Option.bind_eq_bind, ↓Bool.cond_eq_ite, decide_eq_true_eq, beq_iff_eq, bne_iff_ne, ne_eq, Bool.not_eq_true', Bool.not_eq_true, Bool.not_eq_false', Bool.not_not, decide_eq_false_iff_not, if_pos, if_neg, reduceIte, not_true_eq_false, not_false_eq_true, Bool.false_eq_true, Bool.true_eq_false, reduceCtorEq]
        have hidx : ((List.length l : Int) - 1).toNat = l.length - 1 := by omega
        obtain ⟨x, hge, hr⟩ : ∃ x, l[l.length - 1]? = some x ∧ 0 ≤ x ∧ x ≤ 100000 := ⟨_, List.getElem?_eq_getElem (by omega), hx _ (List.getElem_mem (by omega : l.length - 1 < l.length))⟩
        have hgd : l.getD (l.length - 1) 0 = x := by rw [List.getD, hge]; rfl
        rw [w1, hidx, ct (by simp; omega) rfl, bnd hge rfl, bnd hg rfl, ct (by simp; omega) rfl, bnd hge rfl]
        have w3 : IntKind.wrap .i64 ((IntKind.wrap .i64 ((IntKind.wrap .i64 (10 * x)) + (IntKind.wrap .i64 (c.toNat : Int)))) - 48) = 10 * x + c.toNat - 48 := by simp (disch := omega) only [i64_in, u64_in, u32_in, u8_in, u16_in, Option.bind_some, Option.bind_none, Option.bind_eq_bind, ↓Bool.cond_eq_ite, decide_eq_true_eq, beq_iff_eq, bne_iff_ne, ne_eq, Bool.not_eq_true', Bool.not_eq_true, Bool.not_eq_false', Bool.not_not, decide_eq_false_iff_not, if_pos, if_neg, reduceIte, not_true_eq_false, not_false_eq_true, Bool.false_eq_true, Bool.true_eq_false, reduceCtorEq]
        rw [w3]
        rw [numbers_l s hs d n (i + 1) _ (by omega) (by omega) (by omega) (by intro q; apply hl; have := congrArg List.length q; rw [List.length_set] at this; exact List.eq_nil_of_length_eq_zero this) (fun y q => by
          rcases List.mem_or_eq_of_mem_set q with q | q
          · exact hx y q
          · rw [q]; exact mm_r (by omega)) (by simp; omega), hdr, List.foldl_cons]
        congr 2
        unfold nstep
        rw [if_pos ⟨h1, h2⟩, hgd]
      · rw [cf (by simp; omega) rfl]
        exact other (by omega)
    · rw [cf (by simp; omega) rfl]
      exact other (by omega)
theorem numbers_eq {s : List UInt8} (hs : s.length ≤ 1000) : lodgerref04_numbers s = some (s.foldl nstep [0]) := by
  show lodgerref04_numbers_n big s = _
  unfold lodgerref04_numbers_n lodgerref04_numbers_e
  have := numbers_l s hs s.length big 0 [0] (by unfold big; omega) (by omega) (by omega) (by simp) (fun x q => by rw [List.mem_singleton] at q; omega) (by simp; omega)
  simpa using this
theorem nstep_last (l : List Int) (v : Int) (k : Nat) (hk : k < 10) (h0 : 0 ≤ v) (h1 : v ≤ 1000) : nstep (l ++ [v]) (UInt8.ofNat (48 + k)) = l ++ [10 * v + k] := by
  unfold nstep
  rw [ch k hk, if_pos (by omega)]
  have e : (l ++ [v]).length - 1 = l.length := by simp
  rw [e]
  have g : (l ++ [v]).getD l.length 0 = v := by rw [List.getD, List.getElem?_append_right (by omega)]; simp
  rw [g]
  have m : mm false (10 * v + ((48 + k : Nat) : Int) - 48) 100000 = 10 * v + k := by
    unfold mm
    simp only [Bool.false_eq_true, if_false]
    rw [if_neg (by omega)]; omega
  rw [m, List.set_append_right _ _ (by omega)]
  simp
theorem fold_D (u : Nat) : u ≤ 1000 → ∀ l : List Int, (D u).foldl nstep (l ++ [0]) = l ++ [(u : Int)] := by
  induction u using Nat.strongRecOn with
  | _ u ih =>
    intro hu l
    by_cases h : u < 10
    · rw [D_small h, List.foldl_cons, List.foldl_nil, nstep_last l 0 u h (by omega) (by omega)]
      simp
    · rw [D_big (by omega), List.foldl_append, ih (u / 10) (by omega) (by omega) l, List.foldl_cons, List.foldl_nil, nstep_last l _ _ (by omega) (by omega) (by omega)]
      congr 2; omega
theorem nstep_46 (l : List Int) : nstep l 46 = l ++ [0] := by unfold nstep; rw [if_neg (by decide)]
theorem nstep_47 (l : List Int) : nstep l 47 = l ++ [0] := by unfold nstep; rw [if_neg (by decide)]
theorem fold_tx {a : Nat} (ha : a < 4294967296) : (tx a).foldl nstep [0] = [((a / 16777216 : Nat) : Int), ((a / 65536 % 256 : Nat) : Int), ((a / 256 % 256 : Nat) : Int), ((a % 256 : Nat) : Int)] := by
  unfold tx
  rw [List.foldl_append, show ([0] : List Int) = [] ++ [0] from rfl, fold_D _ (by omega), List.foldl_cons, nstep_46, List.foldl_append, fold_D _ (by omega), List.foldl_cons, nstep_46, List.foldl_append, fold_D _ (by omega), List.foldl_cons, nstep_46, fold_D _ (by omega)]
  rfl
theorem fold_btx {b : Block} (h : BK b) : (btx b).foldl nstep [0] = [((b.base.toNat / 16777216 : Nat) : Int), ((b.base.toNat / 65536 % 256 : Nat) : Int), ((b.base.toNat / 256 % 256 : Nat) : Int), ((b.base.toNat % 256 : Nat) : Int), ((b.pre.toNat : Nat) : Int)] := by
  have u := h.1
  have p := BK_pre h
  unfold U32 at u
  unfold btx
  rw [List.foldl_append, fold_tx (by omega), List.foldl_cons, nstep_47, fold_D _ (by omega)]
  rfl
/-- An address of four numbers. -/
def sum4 (x6 x7 x8 x9 : Int) : Int := (IntKind.wrap .u32 ((IntKind.wrap .u32 ((IntKind.wrap .u32 ((IntKind.wrap .u32 ((IntKind.wrap .u32 x6) * 16777216)) + (IntKind.wrap .u32 ((IntKind.wrap .u32 x7) * 65536)))) + (IntKind.wrap .u32 ((IntKind.wrap .u32 x8) * 256)))) + (IntKind.wrap .u32 x9)))
theorem sum4_u (a b c d : Int) : U32 (sum4 a b c d) := by
  unfold sum4 U32
  rw [IntKind.wrap_u32]; omega
theorem sum4_eq {a : Nat} (ha : a < 4294967296) : sum4 ((a / 16777216 : Nat) : Int) ((a / 65536 % 256 : Nat) : Int) ((a / 256 % 256 : Nat) : Int) ((a % 256 : Nat) : Int) = a := by
  unfold sum4
  have h3 : a / 16777216 < 256 := by omega
  have h2 : a / 65536 % 256 < 256 := by omega
  have h1 : a / 256 % 256 < 256 := by omega
  have h0 : a % 256 < 256 := by omega
  have e : a = a / 16777216 * 16777216 + a / 65536 % 256 * 65536 + a / 256 % 256 * 256 + a % 256 := by omega
  generalize a / 16777216 = x at *
  generalize a / 65536 % 256 = y at *
  generalize a / 256 % 256 = z at *
  generalize a % 256 = t at *
  subst e
  simp (disch := omega) only [i64_in, u64_in, u32_in, u8_in, u16_in, Option.bind_some, Option.bind_none, Option.bind_eq_bind, ↓Bool.cond_eq_ite, decide_eq_true_eq, beq_iff_eq, bne_iff_ne, ne_eq, Bool.not_eq_true', Bool.not_eq_true, Bool.not_eq_false', Bool.not_not, decide_eq_false_iff_not, if_pos, if_neg, reduceIte, not_true_eq_false, not_false_eq_true, Bool.false_eq_true, Bool.true_eq_false, reduceCtorEq]
  omega
end Go.Lv.Ld
