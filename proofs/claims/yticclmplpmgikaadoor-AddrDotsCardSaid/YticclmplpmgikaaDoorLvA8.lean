import Derived.Test.YticclmplpmgikaaDoorLvA6
namespace Go.Lv.Ld
set_option linter.all false
open Go Go.Lv Go.IntWalk
set_option linter.unusedVariables false
set_option linter.unusedSimpArgs false
set_option maxRecDepth 100000

/-- Through digits. -/
theorem dots_dig (a by_ : Int) (s : List UInt8) (hs : s.length ≤ 1000) (dots last : Int) : ∀ (x r : List UInt8) (n : Nat) (i : Int), 0 ≤ i → s.drop i.toNat = x ++ r → (∀ c ∈ x, dig c) → i.toNat ≤ s.length →
    lodgerlaw04_AddrDots_l0 (n + x.length) a by_ s dots last i = lodgerlaw04_AddrDots_l0 n a by_ s dots last (i + x.length)
  | [], r, n, i, hi, hd, hx, hl => by simp
  | c :: x, r, n, i, hi, hd, hx, hl => by
    have hlt : i.toNat < s.length := by
      have := congrArg List.length hd
      simp at this; omega
    have hc : s[i.toNat] = c := by
      have h1 : (s.drop i.toNat)[0]? = some c := by rw [hd]; rfl
      rw [List.getElem?_drop, Nat.add_zero, List.getElem?_eq_getElem hlt] at h1
      exact Option.some.inj h1
    have hg : geti s i = some c := by rw [geti_at hi (by omega), hc]
    have hdc := hx c (by simp)
    unfold dig at hdc
    have hd2 : s.drop (i + 1).toNat = x ++ r := by
      have h1 : (s.drop i.toNat).tail = x ++ r := by rw [hd]; rfl
      rw [List.tail_drop] at h1
      rw [← h1]; congr 1; omega
    rw [List.length_cons, ← Nat.add_assoc, su0_lodgerlaw04_AddrDots]
    unfold lodgerlaw04_AddrDots_s0
    have w : IntKind.wrap .i64 (i + 1) = i + 1 := by simp (disch := omega) only [i64_in, u64_in, u32_in, u8_in, u16_in, Option.bind_some, Option.bind_none, Option.bind_eq_bind, ↓Bool.cond_eq_ite, decide_eq_true_eq, beq_iff_eq, bne_iff_ne, ne_eq, Bool.not_eq_true', Bool.not_eq_true, Bool.not_eq_false', Bool.not_not, decide_eq_false_iff_not, if_pos, if_neg, reduceIte, not_true_eq_false, not_false_eq_true, Bool.false_eq_true, Bool.true_eq_false, reduceCtorEq]
    rw [ct (by simp; omega) rfl, cf (by simp; omega) rfl, bnd hg rfl, cf (by simp; omega) rfl, bnd hg rfl, cf (by simp; omega) rfl, bnd hg rfl, cf (by simp; omega) rfl, w, dots_dig a by_ s hs dots last x r n (i + 1) (by omega) hd2 (fun c q => hx c (by simp [q])) (by omega)]
    congr 1; simp; omega
/-- At a dot. -/
theorem dots_dot (a by_ : Int) (s : List UInt8) (hs : s.length ≤ 1000) (dots last i : Int) (n : Nat) (r : List UInt8) (hi : 0 ≤ i) (hd : s.drop i.toNat = 46 :: r) (hil : i.toNat < s.length) (h1 : 2 ≤ i - last) (h2 : i - last ≤ 4) (hk : 0 ≤ dots ∧ dots ≤ 10) :
    lodgerlaw04_AddrDots_l0 (n + 1) a by_ s dots last i = lodgerlaw04_AddrDots_l0 n a by_ s (dots + 1) i (i + 1) := by
  have hc : s[i.toNat] = 46 := by
    have h1 : (s.drop i.toNat)[0]? = some 46 := by rw [hd]; rfl
    rw [List.getElem?_drop, Nat.add_zero, List.getElem?_eq_getElem hil] at h1
    exact Option.some.inj h1
  have hg : geti s i = some 46 := by rw [geti_at hi (by omega), hc]
  have w : IntKind.wrap .i64 (i + 1) = i + 1 := by simp (disch := omega) only [i64_in, u64_in, u32_in, u8_in, u16_in, Option.bind_some, Option.bind_none, Option.bind_eq_bind, ↓Bool.cond_eq_ite, decide_eq_true_eq, beq_iff_eq, bne_iff_ne, ne_eq, Bool.not_eq_true', Bool.not_eq_true, Bool.not_eq_false', Bool.not_not, decide_eq_false_iff_not, if_pos, if_neg, reduceIte, not_true_eq_false, not_false_eq_true, Bool.false_eq_true, Bool.true_eq_false, reduceCtorEq]
  have w2 : IntKind.wrap .i64 (dots + 1) = dots + 1 := by simp (disch := omega) only [i64_in, u64_in, u32_in, u8_in, u16_in, Option.bind_some, Option.bind_none, Option.bind_eq_bind, ↓Bool.cond_eq_ite, decide_eq_true_eq, beq_iff_eq, bne_iff_ne, ne_eq, Bool.not_eq_true', Bool.not_eq_true, Bool.not_eq_false', Bool.not_not, decide_eq_false_iff_not, if_pos, if_neg, reduceIte, not_true_eq_false, not_false_eq_true, Bool.false_eq_true, Bool.true_eq_false, reduceCtorEq]
  have w3 : IntKind.wrap .i64 (i - last) = i - last := by simp (disch := omega) only [i64_in, u64_in, u32_in, u8_in, u16_in, Option.bind_some, Option.bind_none, Option.bind_eq_bind, ↓Bool.cond_eq_ite, decide_eq_true_eq, beq_iff_eq, bne_iff_ne, ne_eq, Bool.not_eq_true', Bool.not_eq_true, Bool.not_eq_false', Bool.not_not, decide_eq_false_iff_not, if_pos, if_neg, reduceIte, not_true_eq_false, not_false_eq_true, Bool.false_eq_true, Bool.true_eq_false, reduceCtorEq]
  rw [su0_lodgerlaw04_AddrDots]
  unfold lodgerlaw04_AddrDots_s0
  rw [ct (by simp; omega) rfl, cf (by simp; omega) rfl, bnd hg rfl, ct (by decide) rfl, w3, cf (by simp; omega) rfl, cf (by simp; omega) rfl, ct (by simp; omega) rfl, w, w2]
/-- At the end. -/
theorem dots_end (a by_ : Int) (s : List UInt8) (hs : s.length ≤ 1000) (dots last i : Int) (n : Nat) (hi : i = s.length) (h1 : 2 ≤ i - last) (h2 : i - last ≤ 4) :
    lodgerlaw04_AddrDots_l0 (n + 1) a by_ s dots last i = lodgerlaw04_AddrDots_l0 n a by_ s dots i (i + 1) := by
  have w : IntKind.wrap .i64 (i + 1) = i + 1 := by simp (disch := omega) only [i64_in, u64_in, u32_in, u8_in, u16_in, Option.bind_some, Option.bind_none, Option.bind_eq_bind, ↓Bool.cond_eq_ite, decide_eq_true_eq, beq_iff_eq, bne_iff_ne, ne_eq, Bool.not_eq_true', Bool.not_eq_true, Bool.not_eq_false', Bool.not_not, decide_eq_false_iff_not, if_pos, if_neg, reduceIte, not_true_eq_false, not_false_eq_true, Bool.false_eq_true, Bool.true_eq_false, reduceCtorEq]
  have w3 : IntKind.wrap .i64 (i - last) = i - last := by simp (disch := omega) only [i64_in, u64_in, u32_in, u8_in, u16_in, Option.bind_some, Option.bind_none, Option.bind_eq_bind, ↓Bool.cond_eq_ite, decide_eq_true_eq, beq_iff_eq, bne_iff_ne, ne_eq, Bool.not_eq_true', Bool.not_eq_true, Bool.not_eq_false', Bool.not_not, decide_eq_false_iff_not, if_pos, if_neg, reduceIte, not_true_eq_false, not_false_eq_true, Bool.false_eq_true, Bool.true_eq_false, reduceCtorEq]
  rw [su0_lodgerlaw04_AddrDots]
  unfold lodgerlaw04_AddrDots_s0
  rw [ct (by simp; omega) rfl, ct (by simp; omega) rfl, w3, cf (by simp; omega) rfl, cf (by simp; omega) rfl, cf (by simp; omega) rfl, w]
theorem no_zero {a : Nat} (ha : a < 4294967296) : ∀ b : Nat, b < 4294967296 → (48 : UInt8) :: tx a ≠ tx b := by
  intro b hb e
  have h46 : (46 : UInt8) ∉ (48 : UInt8) :: D (a / 16777216) := by
    intro q
    rcases List.mem_cons.1 q with q | q
    · cases q
    · exact D_no nd46 q
  obtain ⟨e3, _, _, _⟩ := tx_parts (a := b) (x3 := 48 :: D (a / 16777216)) (x2 := D (a / 65536 % 256)) (x1 := D (a / 256 % 256)) (x0 := D (a % 256)) h46 (D_no nd46) (D_no nd46) (e.symm.trans rfl)
  have p1 := pu_D (b / 16777216) (by omega)
  have p2 := pu_D (a / 16777216) (by omega)
  have p3 : Lib.parseUint10 0 (48 :: D (a / 16777216)) = Lib.parseUint10 0 (D (a / 16777216)) := by
    simp only [Lib.parseUint10]
    rfl
  rw [e3, p3, p2] at p1
  have : a / 16777216 = b / 16777216 := by injection p1
  rw [← this] at e3
  have := congrArg List.length e3
  simp at this
theorem no_space {a : Nat} (l : List UInt8) : l ++ [32] ≠ tx a := by
  intro e
  have : (32 : UInt8) ∈ tx a := by rw [← e]; simp
  rcases tx_mem this with q | q
  · exact nd32 q
  · cases q
theorem tx_last {a : Nat} {l : List UInt8} {c : UInt8} (e : l ++ [c] = tx a) : dig c := by
  have h1 : (tx a).getLast? = some c := by rw [← e]; simp
  have h2 : tx a = (D (a / 16777216) ++ 46 :: (D (a / 65536 % 256) ++ 46 :: (D (a / 256 % 256) ++ [46]))) ++ D (a % 256) := by unfold tx; simp
  rw [h2, List.getLast?_append] at h1
  cases h3 : (D (a % 256)).getLast? with
  | none => rw [List.getLast?_eq_none_iff] at h3; exact absurd h3 (D_ne _)
  | some d =>
    rw [h3] at h1
    cases h1
    exact D_dig _ _ (List.mem_of_getLast? h3)
theorem pure_AddrDots (a b : Int) (ha : WfV E u32 a) (hb : WfV E (.int .u8) b) : lodgerlaw04_AddrDots a b = some true := by
  have wa := a_u32 ha
  have ⟨b0, b1⟩ := a_u8 hb
  have wa' := wa
  unfold U32 at wa'
  show lodgerlaw04_AddrDots_n big a b = _
  unfold lodgerlaw04_AddrDots_n lodgerlaw04_AddrDots_e
  refine bnd awake_eq (cf rfl (bnd (Text_eq wa) ?_))
  obtain ⟨A, hA⟩ : ∃ A : Nat, A = a.toNat := ⟨_, rfl⟩
  have hAl : A < 4294967296 := by omega
  rw [← hA]
  obtain ⟨len1, len2⟩ := tx_len hAl
  -- the four numbers
  obtain ⟨x3, q3⟩ : ∃ x, x = D (A / 16777216) := ⟨_, rfl⟩
  obtain ⟨x2, q2⟩ : ∃ x, x = D (A / 65536 % 256) := ⟨_, rfl⟩
  obtain ⟨x1, q1⟩ : ∃ x, x = D (A / 256 % 256) := ⟨_, rfl⟩
  obtain ⟨x0, q0⟩ : ∃ x, x = D (A % 256) := ⟨_, rfl⟩
  have l3 : x3.length ≤ 3 ∧ 1 ≤ x3.length := by rw [q3]; exact ⟨D_len (by omega), D_pos _⟩
  have l2 : x2.length ≤ 3 ∧ 1 ≤ x2.length := by rw [q2]; exact ⟨D_len (by omega), D_pos _⟩
  have l1 : x1.length ≤ 3 ∧ 1 ≤ x1.length := by rw [q1]; exact ⟨D_len (by omega), D_pos _⟩
  have l0 : x0.length ≤ 3 ∧ 1 ≤ x0.length := by rw [q0]; exact ⟨D_len (by omega), D_pos _⟩
  have d3 : ∀ c ∈ x3, dig c := by rw [q3]; exact D_dig _
  have d2 : ∀ c ∈ x2, dig c := by rw [q2]; exact D_dig _
  have d1 : ∀ c ∈ x1, dig c := by rw [q1]; exact D_dig _
  have d0 : ∀ c ∈ x0, dig c := by rw [q0]; exact D_dig _
  have hs : tx A = x3 ++ 46 :: (x2 ++ 46 :: (x1 ++ 46 :: x0)) := by rw [q3, q2, q1, q0]; rfl
  have hsl : (tx A).length = x3.length + 1 + x2.length + 1 + x1.length + 1 + x0.length := by rw [hs]; simp; omega
  have hs1000 : (tx A).length ≤ 1000 := by omega
  have D1 : (tx A).drop x3.length = 46 :: (x2 ++ 46 :: (x1 ++ 46 :: x0)) := by rw [hs, List.drop_left]
  have D2' : (tx A).drop (x3.length + 1) = x2 ++ 46 :: (x1 ++ 46 :: x0) := by rw [← List.drop_drop, D1]; rfl
  have D3 : (tx A).drop (x3.length + 1 + x2.length) = 46 :: (x1 ++ 46 :: x0) := by rw [← List.drop_drop, D2', List.drop_left]
  have D4 : (tx A).drop (x3.length + 1 + x2.length + 1) = x1 ++ 46 :: x0 := by rw [← List.drop_drop, D3]; rfl
  have D5 : (tx A).drop (x3.length + 1 + x2.length + 1 + x1.length) = 46 :: x0 := by rw [← List.drop_drop, D4, List.drop_left]
  have D6 : (tx A).drop (x3.length + 1 + x2.length + 1 + x1.length + 1) = x0 := by rw [← List.drop_drop, D5]; rfl
  obtain ⟨n, hn⟩ : ∃ n, big = n + 1 + 1 + x0.length + 1 + x1.length + 1 + x2.length + 1 + x3.length := ⟨big - (1 + 1 + x0.length + 1 + x1.length + 1 + x2.length + 1 + x3.length), by unfold big; omega⟩
  rw [hn]
  rw [dots_dig a b (tx A) hs1000 0 (-1) x3 (46 :: (x2 ++ 46 :: (x1 ++ 46 :: x0))) _ 0 (by omega) (by simpa using hs) d3 (by simp),
    dots_dot a b (tx A) hs1000 0 (-1) (0 + x3.length) _ (x2 ++ 46 :: (x1 ++ 46 :: x0)) (by omega) (by rw [show ((0 : Int) + x3.length).toNat = x3.length by omega]; exact D1) (by omega) (by omega) (by omega) (by omega),
    dots_dig a b (tx A) hs1000 _ _ x2 (46 :: (x1 ++ 46 :: x0)) _ _ (by omega) (by rw [show ((0 : Int) + x3.length + 1).toNat = x3.length + 1 by omega]; exact D2') d2 (by omega),
    dots_dot a b (tx A) hs1000 _ _ _ _ (x1 ++ 46 :: x0) (by omega) (by rw [show ((0 : Int) + x3.length + 1 + x2.length).toNat = x3.length + 1 + x2.length by omega]; exact D3) (by omega) (by omega) (by omega) (by omega),
    dots_dig a b (tx A) hs1000 _ _ x1 (46 :: x0) _ _ (by omega) (by rw [show ((0 : Int) + x3.length + 1 + x2.length + 1).toNat = x3.length + 1 + x2.length + 1 by omega]; exact D4) d1 (by omega),
    dots_dot a b (tx A) hs1000 _ _ _ _ x0 (by omega) (by rw [show ((0 : Int) + x3.length + 1 + x2.length + 1 + x1.length).toNat = x3.length + 1 + x2.length + 1 + x1.length by omega]; exact D5) (by omega) (by omega) (by omega) (by omega),
    dots_dig a b (tx A) hs1000 _ _ x0 [] _ _ (by omega) (by rw [show ((0 : Int) + x3.length + 1 + x2.length + 1 + x1.length + 1).toNat = x3.length + 1 + x2.length + 1 + x1.length + 1 by omega, List.append_nil]; exact D6) d0 (by omega),
    dots_end a b (tx A) hs1000 _ _ _ _ (by omega) (by omega) (by omega)]
  rw [su0_lodgerlaw04_AddrDots]
  unfold lodgerlaw04_AddrDots_s0
  -- the last questions
  have p6 : addr_Parse (([48] : List UInt8) ++ tx A) = some (0, 2) := by
    obtain ⟨r, h1, h2⟩ := Parse_ps (s := ([48] : List UInt8) ++ tx A) (by simp; omega)
    rcases h2 with ⟨x, hx, e, _⟩ | ⟨_, rfl⟩
    · exact absurd e (no_zero hAl x hx)
    · exact h1
  have w1 : IntKind.wrap .i64 ((List.length (tx A) : Int) - 1) = (List.length (tx A) : Int) - 1 := by simp (disch := omega) only [i64_in, u64_in, u32_in, u8_in, u16_in, Option.bind_some, Option.bind_none, Option.bind_eq_bind, ↓Bool.cond_eq_ite, decide_eq_true_eq, beq_iff_eq, bne_iff_ne, ne_eq, Bool.not_eq_true', Bool.not_eq_true, Bool.not_eq_false', Bool.not_not, decide_eq_false_iff_not, if_pos, if_neg, reduceIte, not_true_eq_false, not_false_eq_true, Bool.false_eq_true, Bool.true_eq_false, reduceCtorEq]
  rw [w1]
  obtain ⟨cutS, hcut⟩ : ∃ z, z = (((tx A).drop (Int.toNat 0)).take (Int.toNat ((List.length (tx A) : Int) - 1) - Int.toNat 0)) := ⟨_, rfl⟩
  rw [← hcut]
  have hcl : cutS.length ≤ 900 := by
    rw [hcut]
    have h1 := List.length_take_le (Int.toNat ((List.length (tx A) : Int) - 1) - Int.toNat 0) ((tx A).drop (Int.toNat 0))
    omega
  have p7 : addr_Parse (cutS ++ ([32] : List UInt8)) = some (0, 2) := by
    obtain ⟨r, h1, h2⟩ := Parse_ps (s := cutS ++ ([32] : List UInt8)) (by rw [List.length_append]; show cutS.length + 1 ≤ 1000; omega)
    rcases h2 with ⟨x, hx, e, _⟩ | ⟨_, rfl⟩
    · exact absurd e (no_space _)
    · exact h1
  obtain ⟨r8, p8, h8⟩ := Parse_ps (s := tx A ++ strOf [b]) (by rw [List.length_append]; show (tx A).length + 1 ≤ 1000; omega)
  refine cf (decide_eq_false (by omega)) (ct (decide_eq_true (by show 1 + (tx A).length ≤ _; omega)) (bnd p6 (ct (decide_eq_true ⟨by omega, by omega, by omega⟩) (ct (decide_eq_true (by show cutS.length + 1 ≤ _; omega)) (bnd p7 (ct (decide_eq_true (by show (tx A).length + 1 ≤ _; omega)) (bnd p8 (ct rfl (ct rfl (ct rfl ?_))))))))))
  rcases h8 with ⟨x, hx, e, rfl⟩ | ⟨_, rfl⟩
  · have hd := tx_last (a := x) (l := tx A) (c := UInt8.ofNat b.toNat) (by rw [← e]; rfl)
    unfold dig at hd
    have hbn : (UInt8.ofNat b.toNat).toNat = b.toNat := by rw [UInt8.toNat_ofNat']; omega
    rw [hbn] at hd
    refine cf rfl (ct (by simp; omega) (ct (by simp; omega) ?_))
    have hne : x ≠ A := by
      intro q
      rw [q] at e
      have := congrArg List.length e
      simp [strOf] at this
    congr 1
    simp only [bne_iff_ne, ne_eq]
    omega
  · exact ct rfl (ct rfl rfl)
end Go.Lv.Ld
