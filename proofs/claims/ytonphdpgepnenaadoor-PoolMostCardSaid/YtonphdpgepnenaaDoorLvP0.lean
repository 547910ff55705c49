import Derived.Test.YtonphdpgepnenaaDoorLvLoop
namespace Go.Lv.Ld
set_option linter.all false
open Go Go.Lv Go.IntWalk
set_option linter.unusedVariables false

theorem bnd {α β : Type} {o : Option α} {a : α} {f : α → Option β} {r : Option β} (h : o = some a) (h2 : f a = r) : o.bind f = r := by rw [h]; exact h2
theorem ct {α : Type} {c : Bool} {x y r : α} (h : c = true) (h2 : x = r) : (bif c then x else y) = r := by rw [h]; exact h2
theorem cf {α : Type} {c : Bool} {x y r : α} (h : c = false) (h2 : y = r) : (bif c then x else y) = r := by rw [h]; exact h2
/-- The same, but nobody looks into it: else the kernel reckons with words of 64 bits. -/
noncomputable def shut {α : Type} (a : α) : { x : α // x = a } := Classical.choice ⟨⟨a, rfl⟩⟩
/-- A bit of a word. -/
noncomputable def hs (w i : Int) : Bool := (shut fun w i : Int => w.toNat.testBit i.toNat).1 w i
noncomputable def st (w i : Int) : Int := (shut fun w i : Int => ((w.toNat ||| 2 ^ i.toNat : Nat) : Int)).1 w i
noncomputable def cl (w i : Int) : Int := (shut fun w i : Int => ((w.toNat &&& (18446744073709551615 ^^^ 2 ^ i.toNat) : Nat) : Int)).1 w i
theorem hs_eq (w i : Int) : hs w i = w.toNat.testBit i.toNat := congrFun (congrFun (shut fun w i : Int => w.toNat.testBit i.toNat).2 w) i
theorem st_eq (w i : Int) : st w i = ((w.toNat ||| 2 ^ i.toNat : Nat) : Int) := congrFun (congrFun (shut fun w i : Int => ((w.toNat ||| 2 ^ i.toNat : Nat) : Int)).2 w) i
theorem cl_eq (w i : Int) : cl w i = ((w.toNat &&& (18446744073709551615 ^^^ 2 ^ i.toNat) : Nat) : Int) := congrFun (congrFun (shut fun w i : Int => ((w.toNat &&& (18446744073709551615 ^^^ 2 ^ i.toNat) : Nat) : Int)).2 w) i
def U64 (w : Int) : Prop := 0 ≤ w ∧ w ≤ 18446744073709551615

theorem mask_tb (n j : Nat) : (2 ^ n - 1 : Nat).testBit j = decide (j < n) := by simp
theorem all_tb (j : Nat) : (18446744073709551615 : Nat).testBit j = decide (j < 64) := mask_tb 64 j
theorem hs_st {w i j : Int} (hi : 0 ≤ i) (hj : 0 ≤ j) : hs (st w i) j = (hs w j || decide (i = j)) := by
  rw [hs_eq, st_eq, hs_eq]
  rw [Int.toNat_natCast, Nat.testBit_or, Nat.testBit_two_pow]
  congr 1
  by_cases h : i = j <;> simp [h] <;> omega
theorem hs_lt {w j : Int} (hw : U64 w) (h : hs w j = true) : j < 64 := by
  rw [hs_eq] at h
  by_cases hj : j < 64
  · exact hj
  · exfalso
    have h2 : 2 ^ 64 ≤ 2 ^ j.toNat := Nat.pow_le_pow_right (by omega) (by omega)
    have h3 : w.toNat < 2 ^ j.toNat := by unfold U64 at hw; omega
    rw [Nat.testBit_lt_two_pow h3] at h
    cases h
theorem hs_cl {w i j : Int} (hw : U64 w) (hi : 0 ≤ i) (hj : 0 ≤ j) : hs (cl w i) j = (hs w j && !decide (i = j)) := by
  have hlt := @hs_lt w j hw
  rw [hs_eq, cl_eq, hs_eq]
  rw [hs_eq] at hlt
  rw [Int.toNat_natCast, Nat.testBit_and, Nat.testBit_xor, all_tb, Nat.testBit_two_pow]
  by_cases h : i = j
  · subst h
    cases hq : w.toNat.testBit i.toNat
    · rfl
    · have := hlt hq
      have : i.toNat < 64 := by omega
      simp [this]
  · have : i.toNat ≠ j.toNat := by omega
    cases hq : w.toNat.testBit j.toNat
    · rfl
    · have := hlt hq
      have h2 : j.toNat < 64 := by omega
      simp [this, h2, h]
      omega
theorem st_u {w i : Int} (hw : U64 w) (hi : 0 ≤ i) (h : i < 64) : U64 (st w i) := by
  rw [st_eq]
  unfold U64 at *
  have h1 : w.toNat < 2 ^ 64 := by omega
  have h2 : 2 ^ i.toNat < 2 ^ 64 := Nat.pow_lt_pow_right (by omega) (by omega)
  have := Nat.or_lt_two_pow h1 h2
  omega
theorem cl_u {w i : Int} (hw : U64 w) : U64 (cl w i) := by
  rw [cl_eq]
  unfold U64 at *
  have := @Nat.and_le_left w.toNat (18446744073709551615 ^^^ 2 ^ i.toNat)
  omega
theorem hs_ext {w v : Int} (hw : U64 w) (hv : U64 v) (h : ∀ i : Int, 0 ≤ i → i < 64 → hs w i = hs v i) : w = v := by
  have : w.toNat = v.toNat := by
    apply Nat.eq_of_testBit_eq
    intro i
    by_cases hi : i < 64
    · have := h i (by omega) (by omega)
      simpa [hs_eq] using this
    · have h1 := @hs_lt w i hw
      have h2 := @hs_lt v i hv
      rw [hs_eq] at h1 h2
      simp only [Int.toNat_natCast] at h1 h2
      cases q1 : w.toNat.testBit i <;> cases q2 : v.toNat.testBit i <;> simp_all <;> omega
  unfold U64 at *
  omega
theorem hs_all {i : Int} (hi : 0 ≤ i) (h : i < 64) : hs 18446744073709551615 i = true := by
  rw [hs_eq]
  rw [show (18446744073709551615 : Int).toNat = 18446744073709551615 from rfl, all_tb]
  simp; omega
theorem all_iff {w : Int} (hw : U64 w) : w = 18446744073709551615 ↔ ∀ i : Int, 0 ≤ i → i < 64 → hs w i = true := by
  constructor
  · rintro rfl i h1 h2; exact hs_all h1 h2
  · intro h
    exact hs_ext hw (by unfold U64; omega) fun i h1 h2 => by rw [h i h1 h2, hs_all h1 h2]

/-- Bits are parts of sums. -/
theorem hs_div {w i : Int} (hw : 0 ≤ w) (hi : 0 ≤ i) : hs w i = decide (w / 2 ^ i.toNat % 2 = 1) := by
  rw [hs_eq]
  rw [Nat.testBit_eq_decide_div_mod_eq]
  obtain ⟨n, rfl⟩ := Int.eq_ofNat_of_zero_le hw
  simp only [Int.toNat_natCast, decide_eq_decide]
  constructor
  · intro h; exact_mod_cast h
  · intro h; exact_mod_cast h
theorem bv_clear (x m : BitVec 64) (h : x ||| m = x) : (x &&& ~~~m) + m = x := by
  have h1 : (x &&& ~~~m) &&& m = 0#64 := by
    rw [BitVec.and_assoc]; ext i hi; simp
  rw [BitVec.add_eq_or_of_and_eq_zero _ _ h1]
  ext i hi
  have := congrArg (fun y : BitVec 64 => y.getLsbD i) h
  simp at this
  simp
  cases hx : x[i] <;> cases hm : m[i] <;> simp_all
theorem cl_sub {w i : Int} (hw : U64 w) (hi : 0 ≤ i) (h : hs w i = true) : cl w i = w - 2 ^ i.toNat := by
  have hi6 := hs_lt hw h
  have hp : (2 : Nat) ^ i.toNat < 2 ^ 64 := Nat.pow_lt_pow_right (by omega) (by omega)
  have hwn : w.toNat < 2 ^ 64 := by unfold U64 at hw; omega
  have key : (w.toNat &&& (18446744073709551615 ^^^ 2 ^ i.toNat)) + 2 ^ i.toNat = w.toNat := by
    have hb := bv_clear (BitVec.ofNat 64 w.toNat) (BitVec.ofNat 64 (2 ^ i.toNat)) (by
      ext j hj
      rw [BitVec.getElem_or]
      simp only [← BitVec.getLsbD_eq_getElem, BitVec.getLsbD_ofNat, Nat.testBit_two_pow]
      by_cases hij : i.toNat = j
      · subst hij; rw [hs_eq] at h; simp [h]
      · simp [hij])
    have hb2 := congrArg BitVec.toNat hb
    rw [BitVec.toNat_add, BitVec.toNat_and, BitVec.toNat_not, BitVec.toNat_ofNat, BitVec.toNat_ofNat, Nat.mod_eq_of_lt hwn, Nat.mod_eq_of_lt hp] at hb2
    have hx : 2 ^ 64 - 1 - 2 ^ i.toNat = 18446744073709551615 ^^^ 2 ^ i.toNat := by
      apply Nat.eq_of_testBit_eq
      intro j
      rw [Nat.testBit_xor, all_tb, Nat.sub_sub, Nat.add_comm, Nat.testBit_two_pow_sub_succ hp, Nat.testBit_two_pow]
      by_cases hij : i.toNat = j
      · subst hij
        have : i.toNat < 64 := by omega
        simp [this]
      · simp [hij]
    rw [hx] at hb2
    have hle := @Nat.and_le_left w.toNat (18446744073709551615 ^^^ 2 ^ i.toNat)
    have hle2 : (w.toNat &&& (18446744073709551615 ^^^ 2 ^ i.toNat)) + 2 ^ i.toNat < 2 ^ 64 := by
      have e : (w.toNat &&& (18446744073709551615 ^^^ 2 ^ i.toNat)) &&& 2 ^ i.toNat = 0 := by
        apply Nat.eq_of_testBit_eq
        intro j
        rw [Nat.testBit_and, Nat.testBit_and, Nat.testBit_xor, all_tb, Nat.testBit_two_pow]
        by_cases hij : i.toNat = j
        · subst hij
          have : i.toNat < 64 := by omega
          simp [this]
        · simp [hij]
      by_cases hc : (w.toNat &&& (18446744073709551615 ^^^ 2 ^ i.toNat)) + 2 ^ i.toNat < 2 ^ 64
      · exact hc
      · exfalso
        have ha : (BitVec.ofNat 64 (w.toNat &&& (18446744073709551615 ^^^ 2 ^ i.toNat))) &&& (BitVec.ofNat 64 (2 ^ i.toNat)) = 0#64 := by
          apply BitVec.eq_of_toNat_eq
          rw [BitVec.toNat_and, BitVec.toNat_ofNat, BitVec.toNat_ofNat, Nat.mod_eq_of_lt hp, Nat.mod_eq_of_lt (by omega), e]; rfl
        have hs2 := congrArg BitVec.toNat (BitVec.add_eq_or_of_and_eq_zero _ _ ha)
        rw [BitVec.toNat_add, BitVec.toNat_or, BitVec.toNat_ofNat, BitVec.toNat_ofNat, Nat.mod_eq_of_lt hp, Nat.mod_eq_of_lt (show (w.toNat &&& (18446744073709551615 ^^^ 2 ^ i.toNat)) < 2 ^ 64 by omega)] at hs2
        have h3 : 2 ^ i.toNat ≤ (w.toNat &&& (18446744073709551615 ^^^ 2 ^ i.toNat)) ||| 2 ^ i.toNat := Nat.right_le_or
        have h4 : (w.toNat &&& (18446744073709551615 ^^^ 2 ^ i.toNat)) ≤ (w.toNat &&& (18446744073709551615 ^^^ 2 ^ i.toNat)) ||| 2 ^ i.toNat := Nat.left_le_or
        omega
    rw [Nat.mod_eq_of_lt hle2] at hb2
    exact hb2
  rw [cl_eq]
  have hc : ((2 : Int) ^ i.toNat) = ((2 ^ i.toNat : Nat) : Int) := by norm_cast
  unfold U64 at hw
  omega
theorem cl_id {w i : Int} (hw : U64 w) (hi : 0 ≤ i) (h : hs w i = false) : cl w i = w :=
  hs_ext (cl_u hw) hw fun j h1 h2 => by
    rw [hs_cl hw hi h1]
    by_cases e : i = j
    · subst e; simp [h]
    · simp [e]
theorem st_id {w i : Int} (hw : U64 w) (hi : 0 ≤ i) (h6 : i < 64) (h : hs w i = true) : st w i = w :=
  hs_ext (st_u hw hi h6) hw fun j h1 h2 => by
    rw [hs_st hi h1]
    by_cases e : i = j
    · subst e; simp [h]
    · simp [e]
set_option maxRecDepth 100000 in
theorem st_add {w i : Int} (hw : U64 w) (hi : 0 ≤ i) (h6 : i < 64) (h : hs w i = false) : st w i = w + 2 ^ i.toNat := by
  have h1 : hs (st w i) i = true := by rw [hs_st hi hi]; simp
  have h2 := cl_sub (st_u hw hi h6) hi h1
  have h3 : cl (st w i) i = w := hs_ext (cl_u (st_u hw hi h6)) hw fun j q1 q2 => by
    rw [hs_cl (st_u hw hi h6) hi q1, hs_st hi q1]
    by_cases e : i = j
    · subst e; rw [h]; simp
    · simp [e]
  omega
theorem pow_pos' (i : Int) : (0 : Int) < 2 ^ i.toNat := Int.pow_pos (by omega)
theorem pow_64 {i : Int} (h : i < 64) : (2 : Int) ^ i.toNat ≤ 9223372036854775808 := by
  have : (2 : Nat) ^ i.toNat ≤ 2 ^ 63 := Nat.pow_le_pow_right (by omega) (by omega)
  exact (show (2 : Int) ^ i.toNat = ((2 ^ i.toNat : Nat) : Int) by norm_cast) ▸ (Int.ofNat_le.2 this : ((2 ^ i.toNat : Nat) : Int) ≤ ((2 ^ 63 : Nat) : Int))
end Go.Lv.Ld
