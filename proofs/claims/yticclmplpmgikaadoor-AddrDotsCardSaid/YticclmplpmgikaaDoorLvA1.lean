import Derived.Test.YticclmplpmgikaaDoorLvP0
import Derived.Test.YticclmplpmgikaaDoorLvD6
import Derived.Lib.AtoiAllCases
namespace Go.Lv.Ld
set_option linter.all false
open Go Go.Lv Go.IntWalk
set_option linter.unusedVariables false
set_option linter.unusedSimpArgs false

/-- A number's digits. -/
def D (u : Nat) : List UInt8 := Lib.decDigits u
def dig (c : UInt8) : Prop := 48 ≤ c.toNat ∧ c.toNat ≤ 57
theorem ch (k : Nat) (h : k < 10) : (UInt8.ofNat (48 + k)).toNat = 48 + k := by
  rw [UInt8.toNat_ofNat']; omega
theorem D_small {u : Nat} (h : u < 10) : D u = [UInt8.ofNat (48 + u)] := Lib.decDigits_one h
theorem D_big {u : Nat} (h : 10 ≤ u) : D u = D (u / 10) ++ [UInt8.ofNat (48 + u % 10)] := by
  unfold D; rw [Lib.decDigits, dif_neg (by omega)]
theorem D_dig (u : Nat) : ∀ c ∈ D u, dig c := by
  induction u using Nat.strongRecOn with
  | _ u ih =>
    intro c hc
    by_cases h : u < 10
    · rw [D_small h, List.mem_singleton] at hc
      subst hc
      unfold dig; rw [ch u h]; omega
    · rw [D_big (by omega), List.mem_append, List.mem_singleton] at hc
      rcases hc with hc | rfl
      · exact ih (u / 10) (by omega) c hc
      · unfold dig; rw [ch _ (by omega)]; omega
theorem D_ne (u : Nat) : D u ≠ [] := by
  by_cases h : u < 10
  · rw [D_small h]; simp
  · rw [D_big (by omega)]; simp
theorem D_pos (u : Nat) : 1 ≤ (D u).length := by
  have := D_ne u
  cases h : D u with
  | nil => exact absurd h this
  | cons a l => simp
theorem D_len {u : Nat} (h : u < 1000) : (D u).length ≤ 3 := by
  by_cases h1 : u < 10
  · rw [D_small h1]; simp
  · rw [D_big (by omega)]
    by_cases h2 : u / 10 < 10
    · rw [D_small h2]; simp
    · rw [D_big (by omega), D_small (by omega)]; simp
theorem D_no {u : Nat} {c : UInt8} (h : ¬ dig c) : c ∉ D u := fun hc => h (D_dig u c hc)
theorem nd46 : ¬ dig 46 := by unfold dig; decide
theorem nd47 : ¬ dig 47 := by unfold dig; decide
theorem nd32 : ¬ dig 32 := by unfold dig; decide

open Lib in
theorem pu_app : ∀ (xs ys : List UInt8) (acc : Nat), parseUint10 acc (xs ++ ys) = (match parseUint10 acc xs with | .ok v => parseUint10 v ys | e => e)
  | [], ys, acc => rfl
  | c :: xs, ys, acc => by
    simp only [List.cons_append, parseUint10]
    split
    · split
      · rfl
      · split
        · rfl
        · exact pu_app xs ys _
    · rfl
open Lib in
theorem pu_D (u : Nat) : u < 1000000000000000 → parseUint10 0 (D u) = .ok u := by
  induction u using Nat.strongRecOn with
  | _ u ih =>
    intro hu
    have one : ∀ (acc k : Nat), acc < 1000000000000000 → k < 10 → parseUint10 acc [UInt8.ofNat (48 + k)] = .ok (acc * 10 + k) := by
      intro acc k ha hk
      simp only [parseUint10, ch k hk]
      rw [if_pos (by omega), if_neg (by omega), if_neg (by omega)]
      congr 1; omega
    by_cases h : u < 10
    · rw [D_small h, one 0 u (by omega) h]; congr 1; omega
    · rw [D_big (by omega), pu_app, ih (u / 10) (by omega) (by omega)]
      show parseUint10 (u / 10) _ = _
      rw [one _ _ (by omega) (by omega)]; congr 1; omega
theorem D_inj {u v : Nat} (hu : u < 1000000000000000) (hv : v < 1000000000000000) (h : D u = D v) : u = v := by
  have := pu_D u hu
  rw [h, pu_D v hv] at this
  cases this; rfl
open Lib in
theorem atoi_D {u : Nat} (hu : u < 1000000000000000) : atoiAll (D u) = .ok (u : Int) := by
  have hp := pu_D u hu
  have hd := D_dig u
  cases h : D u with
  | nil => exact absurd h (D_ne u)
  | cons c r =>
    have hc := hd c (by rw [h]; simp)
    unfold dig at hc
    rw [atoiAll_plain c r (by omega) (by omega)]
    unfold parseMag
    rw [if_neg (by simp), ← h, hp]
    show (if 9223372036854775808 ≤ u then _ else _) = _
    rw [if_neg (by omega)]
theorem Atoi_D {u : Nat} (hu : u < 1000) : strconv_Atoi (D u) = some ((u : Int), false) := by
  unfold strconv_Atoi
  have := D_len hu
  rw [if_pos (by omega), atoi_D (by omega)]
theorem Atoi_some {s : List UInt8} (h : s.length ≤ 1000000) : ∃ r, strconv_Atoi s = some r := by
  unfold strconv_Atoi
  rw [if_pos (by omega)]
  cases Lib.atoiAll s <;> exact ⟨_, rfl⟩
theorem Itoa_eq {n : Int} (h0 : 0 ≤ n) (h1 : n ≤ 1000000000000) : strconv_Itoa n = some (D n.toNat) := by
  unfold strconv_Itoa
  rw [if_pos (by omega)]
  unfold Lib.itoa D
  rw [if_neg (by omega)]

theorem ib_app (c : UInt8) : ∀ (x r : List UInt8), c ∉ x → Lib.indexByte (x ++ c :: r) c = x.length
  | [], r, _ => by simp [Lib.indexByte]
  | b :: x, r, h => by
    have hb : (b == c) = false := by
      simp only [List.mem_cons, not_or] at h
      exact beq_eq_false_iff_ne.2 fun q => h.1 q.symm
    have ih := ib_app c x r (fun q => h (List.mem_cons_of_mem _ q))
    simp only [List.cons_append, Lib.indexByte, hb, ih]
    have : (((x.length : Int) == -1)) = false := beq_eq_false_iff_ne.2 (by omega)
    simp only [this, Bool.false_eq_true, if_false, List.length_cons]
    omega
theorem ib_miss (c : UInt8) : ∀ (x : List UInt8), c ∉ x → Lib.indexByte x c = -1
  | [], _ => rfl
  | b :: x, h => by
    have hb : (b == c) = false := by
      simp only [List.mem_cons, not_or] at h
      exact beq_eq_false_iff_ne.2 fun q => h.1 q.symm
    have ih := ib_miss c x (fun q => h (List.mem_cons_of_mem _ q))
    simp [Lib.indexByte, hb, ih]
theorem drop_past {c : UInt8} (x r : List UInt8) : (x ++ c :: r).drop (x.length + 1) = r := by
  rw [List.drop_append]
  have : x.drop (x.length + 1) = [] := List.drop_eq_nil_of_le (by omega)
  rw [this]
  simp
theorem split_app {c : UInt8} {x r : List UInt8} (h : c ∉ x) : Lib.split (x ++ c :: r) [c] = x :: Lib.split r [c] := by
  unfold Lib.split
  rw [Lib.count_one, Lib.count_one, List.count_append, List.count_cons_self, List.count_eq_zero.2 h, Nat.zero_add, Lib.splitK, Lib.index_one, ib_app c x r h]
  have : (((x.length : Int) == -1)) = false := beq_eq_false_iff_ne.2 (by omega)
  rw [if_neg (by rw [this]; simp), Int.toNat_natCast]
  show (x ++ c :: r).take (x.length + 0) :: Lib.splitK [c] 0 _ ((x ++ c :: r).drop (x.length + 1)) = _
  rw [drop_past, Nat.add_zero, List.take_left]
theorem split_last {c : UInt8} {x : List UInt8} (h : c ∉ x) : Lib.split x [c] = [x] := by
  unfold Lib.split
  rw [Lib.count_one, List.count_eq_zero.2 h]
  rfl
theorem cut_app {c : UInt8} {x r : List UInt8} (h : c ∉ x) : Lib.cut (x ++ c :: r) [c] = (x, r, true) := by
  unfold Lib.cut
  rw [Lib.index_one, ib_app c x r h, if_pos (by omega), Int.toNat_natCast]
  show ((x ++ c :: r).take x.length, (x ++ c :: r).drop (x.length + 1), true) = _
  rw [drop_past, List.take_left]
theorem uniq {c : UInt8} {x x' r r' : List UInt8} (h : c ∉ x) (h' : c ∉ x') (e : x ++ c :: r = x' ++ c :: r') : x = x' ∧ r = r' := by
  have := cut_app (r := r) h
  rw [e, cut_app h'] at this
  cases this
  exact ⟨rfl, rfl⟩

/-- An address' text. -/
def tx (a : Nat) : List UInt8 := D (a / 16777216) ++ 46 :: (D (a / 65536 % 256) ++ 46 :: (D (a / 256 % 256) ++ 46 :: D (a % 256)))
theorem tx_of {a b3 b2 b1 b0 : Nat} (h : a = b3 * 16777216 + b2 * 65536 + b1 * 256 + b0) (h2 : b2 < 256) (h1 : b1 < 256) (h0 : b0 < 256) : tx a = D b3 ++ 46 :: (D b2 ++ 46 :: (D b1 ++ 46 :: D b0)) := by
  unfold tx
  rw [show a / 16777216 = b3 by omega, show a / 65536 % 256 = b2 by omega, show a / 256 % 256 = b1 by omega, show a % 256 = b0 by omega]
theorem tx_parts {a : Nat} {x3 x2 x1 x0 : List UInt8} (h3 : (46 : UInt8) ∉ x3) (h2 : (46 : UInt8) ∉ x2) (h1 : (46 : UInt8) ∉ x1) (e : tx a = x3 ++ 46 :: (x2 ++ 46 :: (x1 ++ 46 :: x0))) :
    D (a / 16777216) = x3 ∧ D (a / 65536 % 256) = x2 ∧ D (a / 256 % 256) = x1 ∧ D (a % 256) = x0 := by
  unfold tx at e
  obtain ⟨e3, e⟩ := uniq (D_no nd46) h3 e
  obtain ⟨e2, e⟩ := uniq (D_no nd46) h2 e
  obtain ⟨e1, e⟩ := uniq (D_no nd46) h1 e
  exact ⟨e3, e2, e1, e⟩
theorem tx_inj {a b : Nat} (ha : a < 4294967296) (hb : b < 4294967296) (e : tx a = tx b) : a = b := by
  obtain ⟨e3, e2, e1, e0⟩ := tx_parts (D_no nd46) (D_no nd46) (D_no nd46) (e.trans (rfl : tx b = _))
  have q3 := D_inj (by omega) (by omega) e3
  have q2 := D_inj (by omega) (by omega) e2
  have q1 := D_inj (by omega) (by omega) e1
  have q0 := D_inj (by omega) (by omega) e0
  omega
theorem tx_mem {a : Nat} {c : UInt8} (h : c ∈ tx a) : dig c ∨ c = 46 := by
  unfold tx at h
  simp only [List.mem_append, List.mem_cons] at h
  rcases h with h | h | h | h | h | h | h
  · exact .inl (D_dig _ c h)
  · exact .inr h
  · exact .inl (D_dig _ c h)
  · exact .inr h
  · exact .inl (D_dig _ c h)
  · exact .inr h
  · exact .inl (D_dig _ c h)
theorem tx_no47 (a : Nat) : (47 : UInt8) ∉ tx a := fun h => by
  rcases tx_mem h with h | h
  · exact nd47 h
  · cases h
theorem tx_len {a : Nat} (ha : a < 4294967296) : (tx a).length ≤ 15 ∧ 7 ≤ (tx a).length := by
  unfold tx
  simp only [List.length_append, List.length_cons]
  have h3 := @D_len (a / 16777216) (by omega)
  have h2 := @D_len (a / 65536 % 256) (by omega)
  have h1 := @D_len (a / 256 % 256) (by omega)
  have h0 := @D_len (a % 256) (by omega)
  have k3 := D_pos (a / 16777216)
  have k2 := D_pos (a / 65536 % 256)
  have k1 := D_pos (a / 256 % 256)
  have k0 := D_pos (a % 256)
  omega
theorem tx_split {a : Nat} : Lib.split (tx a) [46] = [D (a / 16777216), D (a / 65536 % 256), D (a / 256 % 256), D (a % 256)] := by
  unfold tx
  rw [split_app (D_no nd46), split_app (D_no nd46), split_app (D_no nd46), split_last (D_no nd46)]
end Go.Lv.Ld
