import Derived.Test.YtiajkejmabflaaaDoorLaG
import Derived.Test.YtiajkejmabflaaaDoorLaF
namespace Go.Lv.Ld
set_option linter.all false
noncomputable section
open Go Go.Lv Go.IntWalk
def heldB (c : Conf) (o : Int) : Bool := decide (o ∈ c.held)
theorem drop_cons {l : List Int} {i : Int} (h0 : 0 ≤ i) (h : i < (l.length : Int)) : l.drop i.toNat = gt l i :: l.drop (i + 1).toNat := by
  rw [List.drop_eq_getElem_cons (show i.toNat < l.length by omega)]
  have e := get?_gt h0 h
  rw [List.getElem?_eq_getElem (show i.toNat < l.length by omega), Option.some.injEq] at e
  rw [e, show (i + 1).toNat = i.toNat + 1 by omega]
theorem Held_l (c : Conf) (o : Int) (few : c.held.length ≤ 64) : ∀ (d n : Nat) (j : Int), d < n → 0 ≤ j → ((c.held.length : Int) - j).toNat = d → j ≤ c.held.length → lodgerref05_Held_l0 n o j c = some (decide (o ∈ c.held.drop j.toNat)) := by
  intro d
  induction d with
  | zero =>
    intro n j hn h1 h2 h3
    obtain ⟨m, rfl⟩ : ∃ m, n = m + 1 := ⟨n - 1, by omega⟩
    rw [su0_lodgerref05_Held]
    unfold lodgerref05_Held_s0
    refine cf (decide_eq_false (by omega)) ?_
    rw [List.drop_eq_nil_of_le (by omega)]
    simp
  | succ d ih =>
    intro n j hn h1 h2 h3
    obtain ⟨m, rfl⟩ : ∃ m, n = m + 1 := ⟨n - 1, by omega⟩
    have hj : j < (c.held.length : Int) := by omega
    rw [su0_lodgerref05_Held]
    unfold lodgerref05_Held_s0
    rw [i64_in (j + 1) (by omega), drop_cons h1 hj]
    refine ct (decide_eq_true hj) ?_
    refine bnd (geti_eq h1 hj) ?_
    by_cases q : gt c.held j = o
    · refine ct (beq_iff_eq.2 q) ?_
      rw [decide_eq_true]; rw [q]; exact List.mem_cons_self
    · refine cf (beq_eq_false_iff_ne.2 q) ?_
      rw [ih m (j + 1) (by omega) (by omega) (by omega) (by omega)]
      congr 1
      rw [decide_eq_decide, List.mem_cons]
      exact ⟨.inr, fun h => h.resolve_left (fun e => q e.symm)⟩
theorem rHeld_eq {c : Conf} (few : c.held.length ≤ 64) (o : Int) : lodgerref05_Held c o = some (heldB c o) := by
  have := Held_l c o few c.held.length big 0 (big_lt (by omega)) (by omega) (by omega) (by omega)
  exact this
/-- What is wrong with an address. -/
def fnd (c : Conf) (x : Int) : Int := if ins c.block x then (if heldB c (x - c.block.base) then 4 else 0) else 3
theorem rFind_e {c : Conf} (ok : OKc c) (ub : U32 c.block.base) {a : Int} (ha : U32 a) : ∃ y, lodgerref05_Find c a = some (y, fnd c a) := by
  unfold lodgerref05_Find fnd
  rw [rOffset_eq ok.blk ub ha]
  by_cases q : ins c.block a
  · rw [if_pos q, if_pos q]
    cases hh : heldB c (a - c.block.base)
    · exact ⟨_, bnd rfl (cf rfl (bnd ((rHeld_eq ok.few _).trans (congrArg some hh)) (cf rfl rfl)))⟩
    · exact ⟨_, bnd rfl (cf rfl (bnd ((rHeld_eq ok.few _).trans (congrArg some hh)) (ct rfl rfl)))⟩
  · rw [if_neg q, if_neg q]
    exact ⟨_, bnd rfl (ct rfl rfl)⟩
theorem Index_l (l : List Int) (x : Int) (few : l.length ≤ 100000) : ∀ (d n : Nat) (j : Int), d < n → 0 ≤ j → ((l.length : Int) - j).toNat = d → j ≤ l.length → ∃ r, slices_Index_l0 n l x l.length j = some r ∧ decide (r ≥ 0) = decide (x ∈ l.drop j.toNat) := by
  intro d
  induction d with
  | zero =>
    intro n j hn h1 h2 h3
    obtain ⟨m, rfl⟩ : ∃ m, n = m + 1 := ⟨n - 1, by omega⟩
    rw [su0_slices_Index]
    unfold slices_Index_s0
    refine ⟨-1, cf (decide_eq_false (by omega)) rfl, ?_⟩
    rw [List.drop_eq_nil_of_le (by omega)]
    simp
  | succ d ih =>
    intro n j hn h1 h2 h3
    obtain ⟨m, rfl⟩ : ∃ m, n = m + 1 := ⟨n - 1, by omega⟩
    have hj : j < (l.length : Int) := by omega
    rw [su0_slices_Index]
    unfold slices_Index_s0
    rw [i64_in (j + 1) (by omega), drop_cons h1 hj]
    by_cases q : x = gt l j
    · refine ⟨j, ct (decide_eq_true hj) (bnd (geti_eq h1 hj) (ct (beq_iff_eq.2 q) rfl)), ?_⟩
      rw [decide_eq_true h1, decide_eq_true]; rw [q]; exact List.mem_cons_self
    · obtain ⟨r, e1, e2⟩ := ih m (j + 1) (by omega) (by omega) (by omega) (by omega)
      refine ⟨r, ct (decide_eq_true hj) (bnd (geti_eq h1 hj) (cf (beq_eq_false_iff_ne.2 q) e1)), ?_⟩
      rw [e2, decide_eq_decide, List.mem_cons]
      exact ⟨.inr, fun h => h.resolve_left q⟩
theorem Held_eq {c : Conf} (few : c.held.length ≤ 64) (o : Int) : block_Held c o = some (heldB c o) := by
  unfold block_Held slices_Contains slices_Index slices_Index_n slices_Index_e
  obtain ⟨r, e1, e2⟩ := Index_l c.held o (by omega) c.held.length big 0 (big_lt (by omega)) (by omega) (by omega) (by omega)
  rw [e1]
  exact congrArg some e2
theorem Find_e {c : Conf} (ok : OKc c) (ub : U32 c.block.base) {a : Int} (ha : U32 a) : ∃ y, block_Find c a = some (y, fnd c a) := by
  unfold block_Find fnd
  rw [Offset_eq ok.blk ub ha]
  by_cases q : ins c.block a
  · rw [if_pos q, if_pos q]
    cases hh : heldB c (a - c.block.base)
    · exact ⟨_, bnd rfl (cf rfl (bnd ((Held_eq ok.few _).trans (congrArg some hh)) (cf rfl rfl)))⟩
    · exact ⟨_, bnd rfl (cf rfl (bnd ((Held_eq ok.few _).trans (congrArg some hh)) (ct rfl rfl)))⟩
  · rw [if_neg q, if_neg q]
    exact ⟨_, bnd rfl (ct rfl rfl)⟩
/-- What is wrong with addresses, behind those that were. -/
def chk (c : Conf) : List Int → List Int → Int
  | [], _ => 0
  | x :: r, s => if fnd c x ≠ 0 then fnd c x else if x ∈ s then 8 else chk c r (x :: s)
theorem ieq_iff {a b : Int} : ieq a b = true ↔ a = b := by unfold ieq; exact beq_iff_eq
theorem ieq_ne {a b : Int} (h : a ≠ b) : ieq a b = false := by unfold ieq; exact beq_eq_false_iff_ne.2 h
theorem mget_mput (y x : Int) : ∀ m, mget y (mput x true m) = (decide (y = x) || mget y m)
  | [] => by
    by_cases h : y = x
    · subst h; simp [mput, mget, ieq]
    · simp [mput, mget, ieq, h]
  | p :: r => by
    have ih := mget_mput y x r
    unfold mput
    by_cases h : x = p.1
    · rw [ieq_iff.2 h, cond_true]
      unfold mget
      by_cases q : y = x
      · simp [ieq, q]
      · rw [ieq_ne q, ieq_ne (show y ≠ p.1 from fun e => q (e.trans h.symm))]
        simp [q]
    · rw [ieq_ne h, cond_false]
      unfold mget
      rw [ih]
      by_cases q : y = p.1
      · have : y ≠ x := fun e => h (e.symm.trans q)
        rw [ieq_iff.2 q]
        simp [this]
      · rw [ieq_ne q]; simp
theorem Check_l (c : Conf) (l : List Int) (ok : OKc c) (ub : U32 c.block.base) (hu : ∀ x, x ∈ l → U32 x) (few : l.length ≤ 100000) : ∀ (d n : Nat) (i : Int) (m : List (Int × Bool)) (s : List Int), d < n → 0 ≤ i → ((l.length : Int) - i).toNat = d → i ≤ l.length → (∀ x, mget x m = decide (x ∈ s)) →
    ask_Check_l0 n l l.length i c m = some (chk c (l.drop i.toNat) s) := by
  intro d
  induction d with
  | zero =>
    intro n i m s hn h1 h2 h3 hm
    obtain ⟨k, rfl⟩ : ∃ m, n = m + 1 := ⟨n - 1, by omega⟩
    rw [su0_ask_Check]
    unfold ask_Check_s0
    rw [List.drop_eq_nil_of_le (by omega)]
    exact cf (decide_eq_false (by omega)) rfl
  | succ d ih =>
    intro n i m s hn h1 h2 h3 hm
    obtain ⟨k, rfl⟩ : ∃ m, n = m + 1 := ⟨n - 1, by omega⟩
    have hj : i < (l.length : Int) := by omega
    rw [su0_ask_Check]
    unfold ask_Check_s0
    rw [i64_in (i + 1) (by omega), drop_cons h1 hj]
    refine ct (decide_eq_true hj) (bnd (geti_eq h1 hj) ?_)
    obtain ⟨y, hy⟩ := Find_e ok ub (hu _ (gt_mem h1 hj))
    refine bnd hy ?_
    unfold chk
    by_cases q : fnd c (gt l i) = 0
    · rw [if_neg (by simp [q])]
      refine cf (show (fnd c (gt l i) != 0) = false by rw [q]; rfl) ?_
      rw [hm]
      by_cases q2 : gt l i ∈ s
      · rw [if_pos q2]
        exact ct (decide_eq_true q2) rfl
      · rw [if_neg q2]
        refine cf (decide_eq_false q2) ?_
        refine ih k (i + 1) _ _ (by omega) (by omega) (by omega) (by omega) fun x => ?_
        rw [mget_mput, hm]
        by_cases e : x = gt l i
        · simp [e]
        · simp [e]
    · rw [if_pos q]
      exact ct (bne_iff_ne.2 q) rfl
theorem rCheck_i (c : Conf) (l : List Int) (i : Int) (hi0 : 0 ≤ i) (hi : i < (l.length : Int)) (few : l.length ≤ 100) : ∀ (d n : Nat) (k : Int), d < n → 0 ≤ k → (i - k).toNat = d → k ≤ i →
    ((∃ j : Int, k ≤ j ∧ j < i ∧ gt l j = gt l i) → lodgerref10_Check_l1 n l i k c = some 8) ∧ ((¬ ∃ j : Int, k ≤ j ∧ j < i ∧ gt l j = gt l i) → lodgerref10_Check_l1 n l i k c = lodgerref10_Check_l0 (n - d - 1) l (i + 1) c) := by
  intro d
  induction d with
  | zero =>
    intro n k hn h1 h2 h3
    obtain ⟨m, rfl⟩ : ∃ m, n = m + 1 := ⟨n - 1, by omega⟩
    rw [su1_lodgerref10_Check]
    unfold lodgerref10_Check_s1
    rw [i64_in (i + 1) (by omega)]
    exact ⟨fun ⟨j, q1, q2, _⟩ => by omega, fun _ => cf (decide_eq_false (by omega)) rfl⟩
  | succ d ih =>
    intro n k hn h1 h2 h3
    obtain ⟨m, rfl⟩ : ∃ m, n = m + 1 := ⟨n - 1, by omega⟩
    obtain ⟨g1, g2⟩ := ih m (k + 1) (by omega) (by omega) (by omega) (by omega)
    rw [su1_lodgerref10_Check]
    unfold lodgerref10_Check_s1
    rw [i64_in (k + 1) (by omega)]
    have hk : k < (l.length : Int) := by clear g1 g2; omega
    have hki : k < i := by clear g1 g2; omega
    by_cases q : gt l k = gt l i
    · refine ⟨fun _ => ct (decide_eq_true hki) (bnd (geti_eq h1 hk) (bnd (geti_eq hi0 hi) (ct (beq_iff_eq.2 q) rfl))), fun h => ?_⟩
      exact absurd ⟨k, Int.le_refl _, hki, q⟩ h
    · refine ⟨fun h => ct (decide_eq_true hki) (bnd (geti_eq h1 hk) (bnd (geti_eq hi0 hi) (cf (beq_eq_false_iff_ne.2 q) (g1 ?_)))), fun h => ct (decide_eq_true hki) (bnd (geti_eq h1 hk) (bnd (geti_eq hi0 hi) (cf (beq_eq_false_iff_ne.2 q) ?_)))⟩
      · obtain ⟨j, q1, q2, q3⟩ := h
        by_cases e : j = k
        · rw [e] at q3; exact absurd q3 q
        · exact ⟨j, by clear g1 g2; omega, q2, q3⟩
      · have h' : ¬ ∃ j : Int, k + 1 ≤ j ∧ j < i ∧ gt l j = gt l i := fun ⟨j, q1, q2, q3⟩ => h ⟨j, Int.le_trans (Int.le_add_of_nonneg_right (by decide)) q1, q2, q3⟩
        rw [g2 h']
        congr 1
        clear g1 g2 h h'
        omega
theorem rCheck_l (c : Conf) (l : List Int) (ok : OKc c) (ub : U32 c.block.base) (hu : ∀ x, x ∈ l → U32 x) (few : l.length ≤ 100) : ∀ (d n : Nat) (i : Int) (s : List Int), d * 102 < n → 0 ≤ i → ((l.length : Int) - i).toNat = d → i ≤ l.length → (∀ x, x ∈ s ↔ ∃ j : Int, 0 ≤ j ∧ j < i ∧ gt l j = x) →
    lodgerref10_Check_l0 n l i c = some (chk c (l.drop i.toNat) s) := by
  intro d
  induction d with
  | zero =>
    intro n i s hn h1 h2 h3 hm
    obtain ⟨k, rfl⟩ : ∃ m, n = m + 1 := ⟨n - 1, by omega⟩
    rw [su0_lodgerref10_Check]
    unfold lodgerref10_Check_s0
    rw [List.drop_eq_nil_of_le (by omega)]
    exact cf (decide_eq_false (by omega)) rfl
  | succ d ih =>
    intro n i s hn h1 h2 h3 hm
    obtain ⟨k, rfl⟩ : ∃ m, n = m + 1 := ⟨n - 1, by omega⟩
    have hj : i < (l.length : Int) := by omega
    rw [su0_lodgerref10_Check]
    unfold lodgerref10_Check_s0
    rw [drop_cons h1 hj]
    refine ct (decide_eq_true hj) (bnd (geti_eq h1 hj) ?_)
    obtain ⟨y, hy⟩ := rFind_e ok ub (hu _ (gt_mem h1 hj))
    refine bnd hy ?_
    unfold chk
    obtain ⟨g1, g2⟩ := rCheck_i c l i h1 hj few i.toNat k 0 (by omega) (by omega) (by omega) (by omega)
    by_cases q : fnd c (gt l i) = 0
    · rw [if_neg (by simp [q])]
      refine cf (show (fnd c (gt l i) != 0) = false by rw [q]; rfl) ?_
      by_cases q2 : gt l i ∈ s
      · rw [if_pos q2]
        exact g1 ((hm _).1 q2)
      · rw [if_neg q2, g2 (fun h => q2 ((hm _).2 h))]
        clear g1 g2
        refine ih _ (i + 1) _ (by omega) (by omega) (by omega) (by omega) fun x => ?_
        rw [List.mem_cons, hm]
        constructor
        · rintro (e | ⟨j, q1, q3, q4⟩)
          · exact ⟨i, h1, by omega, e.symm⟩
          · exact ⟨j, q1, by omega, q4⟩
        · rintro ⟨j, q1, q3, q4⟩
          by_cases e : j = i
          · left; rw [← q4, e]
          · right; exact ⟨j, q1, by omega, q4⟩
    · rw [if_pos q]
      exact ct (bne_iff_ne.2 q) rfl
def one (a : Ask) : Prop := a.kind = 2 ∨ a.kind = 3 ∨ a.kind = 5
instance (a : Ask) : Decidable (one a) := by unfold one; infer_instance
/-- Which addresses a request names. -/
def nam (a : Ask) : List Int := if one a then [a.addr] else if a.kind = 4 then a.addrs else []
/-- What is wrong with a request. -/
def ck (c : Conf) (a : Ask) : Int := if a.kind < 1 ∨ 7 < a.kind then 1 else if a.kind = 4 ∧ a.addrs.length = 0 then 7 else if a.kind = 4 ∧ 64 < a.addrs.length then 1 else chk c (nam a) []
theorem rNames_eq {a : Ask} (few : a.addrs.length ≤ 100) : lodgerref10_Names a = some (nam a) := by
  have hmx : maxList = 137438953472 := rfl
  unfold lodgerref10_Names nam
  by_cases k2 : a.kind = 2
  · rw [if_pos (show one a from .inl k2)]; exact ct (beq_iff_eq.2 k2) rfl
  refine cf (beq_eq_false_iff_ne.2 k2) ?_
  by_cases k3 : a.kind = 3
  · rw [if_pos (show one a from .inr (.inl k3))]; exact ct (beq_iff_eq.2 k3) rfl
  refine cf (beq_eq_false_iff_ne.2 k3) ?_
  by_cases k5 : a.kind = 5
  · rw [if_pos (show one a from .inr (.inr k5))]; exact ct (beq_iff_eq.2 k5) rfl
  refine cf (beq_eq_false_iff_ne.2 k5) ?_
  rw [if_neg (show ¬ one a by unfold one; omega)]
  by_cases k4 : a.kind = 4
  · rw [if_pos k4]; exact ct (beq_iff_eq.2 k4) (ct (decide_eq_true (by omega)) rfl)
  · rw [if_neg k4]; exact cf (beq_eq_false_iff_ne.2 k4) rfl
theorem Names_eq {a : Ask} (few : a.addrs.length ≤ 100) : ask_Names a = some (nam a) := by
  have hmx : maxList = 137438953472 := rfl
  unfold ask_Names nam slices_Clone cloneF
  by_cases k4 : a.kind = 4
  · rw [if_neg (show ¬ one a by unfold one; omega), if_pos k4]
    refine ct (beq_iff_eq.2 k4) ?_
    rw [if_pos (by omega)]
    rfl
  refine cf (beq_eq_false_iff_ne.2 k4) ?_
  by_cases k0 : a.kind ≥ 0
  · refine ct (decide_eq_true k0) ?_
    by_cases k6 : a.kind < 6
    · refine ct (decide_eq_true k6) ?_
      by_cases e0 : a.kind = 0
      · rw [if_neg (show ¬ one a by unfold one; omega), if_neg k4]; exact ct (beq_iff_eq.2 e0) rfl
      refine cf (beq_eq_false_iff_ne.2 e0) ?_
      by_cases e1 : a.kind = 1
      · rw [if_neg (show ¬ one a by unfold one; omega), if_neg k4]; exact ct (beq_iff_eq.2 e1) rfl
      refine cf (beq_eq_false_iff_ne.2 e1) ?_
      by_cases e2 : a.kind = 2
      · rw [if_pos (show one a by unfold one; omega)]; exact ct (beq_iff_eq.2 e2) rfl
      refine cf (beq_eq_false_iff_ne.2 e2) ?_
      by_cases e3 : a.kind = 3
      · rw [if_pos (show one a by unfold one; omega)]; exact ct (beq_iff_eq.2 e3) rfl
      refine cf (beq_eq_false_iff_ne.2 e3) ?_
      refine cf (beq_eq_false_iff_ne.2 k4) ?_
      rw [if_pos (show one a by unfold one; omega)]
      exact ct (beq_iff_eq.2 (by omega)) rfl
    · rw [if_neg (show ¬ one a by unfold one; omega), if_neg k4]; exact cf (decide_eq_false k6) rfl
  · rw [if_neg (show ¬ one a by unfold one; omega), if_neg k4]; exact cf (decide_eq_false k0) rfl
theorem nam_u {a : Ask} (ha : WAsk a) : ∀ x, x ∈ nam a → U32 x := by
  unfold nam
  intro x hx
  split at hx
  · rw [List.mem_singleton] at hx; rw [hx]; exact ha.addr
  split at hx
  · exact ha.addrs.2 x hx
  · cases hx
theorem nam_len {a : Ask} (few : a.addrs.length ≤ 100) : (nam a).length ≤ 100 := by
  unfold nam
  split
  · simp
  split
  · exact few
  · simp
theorem ask_Check_eq {c : Conf} {a : Ask} (ok : OKc c) (ub : U32 c.block.base) (ha : WAsk a) (few : a.addrs.length ≤ 100) : ask_Check c a = some (ck c a) := by
  unfold ask_Check ask_Check_n ask_Check_e ck
  by_cases q1 : a.kind < 1
  · rw [if_pos (.inl q1)]; exact ct (decide_eq_true q1) rfl
  refine cf (decide_eq_false q1) ?_
  by_cases q2 : a.kind > 7
  · rw [if_pos (.inr q2)]; exact ct (decide_eq_true q2) rfl
  refine cf (decide_eq_false q2) ?_
  rw [if_neg (by omega)]
  have main : (ask_Names a).bind (fun r2 => ask_Check_l0 big r2 (List.length r2 : Int) 0 c ([] : List (Int × Bool))) = some (chk c (nam a) []) := by
    refine bnd (Names_eq few) ?_
    exact Check_l c (nam a) ok ub (nam_u ha) (by have := nam_len few; omega) (nam a).length big 0 [] [] (big_lt (by have := nam_len few; omega)) (by omega) (by omega) (by omega) (fun x => rfl)
  unfold ask_size
  by_cases k4 : a.kind = 4
  · have hne : (a.kind != 4) = false := by rw [k4]; rfl
    rw [hne]
    by_cases l0 : a.addrs.length = 0
    · rw [if_pos ⟨k4, l0⟩]
      refine bnd (a := 7) (cf rfl (ct (beq_iff_eq.2 (by omega)) rfl)) (ct rfl rfl)
    rw [if_neg (fun h => l0 h.2)]
    by_cases l1 : 64 < a.addrs.length
    · rw [if_pos ⟨k4, l1⟩]
      refine bnd (a := 1) (cf rfl (cf (beq_eq_false_iff_ne.2 (by omega)) (ct (decide_eq_true (by omega)) rfl))) (ct rfl rfl)
    · rw [if_neg (fun h => l1 h.2)]
      refine bnd (a := 0) (cf rfl (cf (beq_eq_false_iff_ne.2 (by omega)) (cf (decide_eq_false (by omega)) rfl))) (cf rfl main)
  · rw [if_neg (fun h => k4 h.1), if_neg (fun h => k4 h.1)]
    exact bnd (a := 0) (ct (bne_iff_ne.2 k4) rfl) (cf rfl main)
theorem rCheck_eq {c : Conf} {a : Ask} (ok : OKc c) (ub : U32 c.block.base) (ha : WAsk a) (few : a.addrs.length ≤ 100) : lodgerref10_Check c a = some (ck c a) := by
  unfold lodgerref10_Check lodgerref10_Check_n lodgerref10_Check_e ck
  by_cases q1 : a.kind < 1
  · rw [if_pos (.inl q1)]; exact ct (decide_eq_true q1) rfl
  refine cf (decide_eq_false q1) ?_
  by_cases q2 : a.kind > 7
  · rw [if_pos (.inr q2)]; exact ct (decide_eq_true q2) rfl
  refine cf (decide_eq_false q2) ?_
  rw [if_neg (by omega)]
  have main : (lodgerref10_Names a).bind (fun r2 => lodgerref10_Check_l0 big r2 0 c) = some (chk c (nam a) []) := by
    refine bnd (rNames_eq few) ?_
    have hl := nam_len few
    exact rCheck_l c (nam a) ok ub (nam_u ha) hl (nam a).length big 0 [] (big_lt (by omega)) (by omega) (by omega) (by omega) (fun x => ⟨fun h => absurd h List.not_mem_nil, fun ⟨j, q1, q3, _⟩ => by omega⟩)
  by_cases k4 : a.kind = 4
  · refine ct (beq_iff_eq.2 k4) ?_
    by_cases l0 : a.addrs.length = 0
    · rw [if_pos ⟨k4, l0⟩]; exact ct (beq_iff_eq.2 (by omega)) rfl
    rw [if_neg (fun h => l0 h.2)]
    refine cf (beq_eq_false_iff_ne.2 (by omega)) (ct (beq_iff_eq.2 k4) ?_)
    by_cases l1 : 64 < a.addrs.length
    · rw [if_pos ⟨k4, l1⟩]; exact ct (decide_eq_true (by omega)) rfl
    · rw [if_neg (fun h => l1 h.2)]
      exact cf (decide_eq_false (by omega)) main
  · rw [if_neg (fun h => k4 h.1), if_neg (fun h => k4 h.1)]
    exact cf (beq_eq_false_iff_ne.2 k4) (cf (beq_eq_false_iff_ne.2 k4) main)
end
end Go.Lv.Ld
namespace Go.Lv.Ld
set_option linter.all false
noncomputable section
open Go Go.Lv Go.IntWalk
theorem ck_kind {c : Conf} {a : Ask} (h : ck c a = 0) : 1 ≤ a.kind ∧ a.kind ≤ 7 := by
  unfold ck at h
  split at h
  · cases h
  · omega
theorem ck_four {c : Conf} {a : Ask} (h : ck c a = 0) (k : a.kind = 4) : 0 < a.addrs.length ∧ a.addrs.length ≤ 64 ∧ chk c a.addrs [] = 0 := by
  unfold ck at h
  split at h
  · cases h
  split at h
  · cases h
  split at h
  · cases h
  rename_i h1 h2 h3
  have e : nam a = a.addrs := (if_neg (show ¬ one a by unfold one; omega)).trans (if_pos k)
  rw [e] at h
  exact ⟨Nat.pos_of_ne_zero fun e => h2 ⟨k, e⟩, Nat.le_of_not_lt fun e => h3 ⟨k, e⟩, h⟩
theorem chk_all {c : Conf} : ∀ (l s : List Int), chk c l s = 0 → ∀ x, x ∈ l → fnd c x = 0
  | [], _, _, x, hx => by cases hx
  | y :: r, s, h, x, hx => by
    unfold chk at h
    split at h
    · rename_i h1; exact absurd h h1
    · rename_i h1
      split at h
      · cases h
      · rcases List.mem_cons.1 hx with e | hx
        · rw [e]; exact Decidable.not_not.1 h1
        · exact chk_all r _ h x hx
end
end Go.Lv.Ld
namespace Go.Lv.Ld
set_option linter.all false
noncomputable section
open Go Go.Lv Go.IntWalk
theorem awake25 : lodgerlaw25_awake = some true := by kernel_rfl
/-- What is put in its place. -/
def insr (o : Int) : List Int → List Int
  | [] => [o]
  | x :: r => if x > o then o :: x :: r else if x = o then x :: r else x :: insr o r
theorem With_l (s : List Int) (o : Int) (few : s.length ≤ 100000) : ∀ (d n : Nat) (j : Int) (b : Bool) (acc : List Int), d < n → 0 ≤ j → ((s.length : Int) - j).toNat = d → j ≤ s.length → (acc.length : Int) ≤ j + 1 → (b = false → (acc.length : Int) ≤ j) → lodgerref09_With_l0 n s o b j acc = some (acc ++ if b then s.drop j.toNat else insr o (s.drop j.toNat)) := by
  intro d
  induction d with
  | zero =>
    intro n j b acc hn h1 h2 h3 h4 h5
    obtain ⟨m, rfl⟩ : ∃ m, n = m + 1 := ⟨n - 1, by omega⟩
    rw [su0_lodgerref09_With]
    unfold lodgerref09_With_s0
    refine cf (decide_eq_false (by omega)) ?_
    rw [List.drop_eq_nil_of_le (by omega)]
    cases b
    · refine ct rfl ?_
      exact ct (decide_eq_true (by unfold maxList; simp only [List.length_cons, List.length_nil]; omega)) rfl
    · exact cf rfl (by simp)
  | succ d ih =>
    intro n j b acc hn h1 h2 h3 h4 h5
    obtain ⟨m, rfl⟩ : ∃ m, n = m + 1 := ⟨n - 1, by omega⟩
    have hj : j < (s.length : Int) := by omega
    have hg := geti_eq h1 hj
    have ml : ∀ x : Int, decide (acc.length + ([x] : List Int).length ≤ maxList) = true := fun x => decide_eq_true (by unfold maxList; simp only [List.length_cons, List.length_nil]; omega)
    rw [su0_lodgerref09_With]
    unfold lodgerref09_With_s0
    rw [i64_in (j + 1) (by omega), drop_cons h1 hj]
    have ih := fun b acc h h' => ih m (j + 1) b acc (by omega) (by omega) (by omega) (by omega) h h'
    have one : ∀ b : Bool, (b = false → (acc.length : Int) ≤ j) → lodgerref09_With_l0 m s o b (j + 1) (acc ++ [gt s j]) = some (acc ++ gt s j :: if b then s.drop (j + 1).toNat else insr o (s.drop (j + 1).toNat)) := fun b hb => by
      rw [ih b _ (by simp only [List.length_append, List.length_cons, List.length_nil]; omega) (fun e => by have := hb e; simp only [List.length_append, List.length_cons, List.length_nil]; omega), List.append_assoc]; rfl
    refine ct (decide_eq_true hj) ?_
    cases b
    · refine ct rfl ?_
      refine bnd hg ?_
      rw [if_neg Bool.false_ne_true, show insr o (gt s j :: s.drop (j + 1).toNat) = if gt s j > o then o :: gt s j :: s.drop (j + 1).toNat else if gt s j = o then gt s j :: s.drop (j + 1).toNat else gt s j :: insr o (s.drop (j + 1).toNat) from rfl]
      by_cases q : gt s j ≥ o
      · refine ct (decide_eq_true q) ?_
        refine bnd hg ?_
        by_cases q2 : gt s j > o
        · refine ct (decide_eq_true q2) ?_
          refine ct (ml o) ?_
          refine bnd hg ?_
          refine ct (decide_eq_true (by unfold maxList; simp only [List.length_append, List.length_cons, List.length_nil]; omega)) ?_
          have h5 := h5 rfl
          rw [ih true _ (by simp only [List.length_append, List.length_cons, List.length_nil]; omega) (fun e => by cases e), if_pos q2, List.append_assoc, List.append_assoc]; rfl
        · refine cf (decide_eq_false q2) ?_
          refine bnd hg ?_
          refine ct (ml _) ?_
          rw [one true (fun e => by cases e), if_neg q2, if_pos (show gt s j = o by omega)]; rfl
      · refine cf (decide_eq_false q) ?_
        refine bnd hg ?_
        refine ct (ml _) ?_
        rw [one false (fun _ => h5 rfl), if_neg (show ¬ gt s j > o by omega), if_neg (show ¬ gt s j = o by omega)]; rfl
    · refine cf rfl ?_
      refine bnd hg ?_
      refine ct (ml _) ?_
      exact one true (fun e => by cases e)
theorem With_eq {s : List Int} {o : Int} (few : s.length ≤ 100000) : lodgerref09_With s o = some (insr o s) := by
  have := With_l s o few s.length big 0 false [] (big_lt (by omega)) (by omega) (by omega) (by omega) (by simp) (by simp)
  exact this
theorem sHas_l (s : List Int) (o : Int) (few : s.length ≤ 100000) : ∀ (d n : Nat) (j : Int), d < n → 0 ≤ j → ((s.length : Int) - j).toNat = d → j ≤ s.length → lodgerref09_Has_l0 n s o j = some (decide (o ∈ s.drop j.toNat)) := by
  intro d
  induction d with
  | zero =>
    intro n j hn h1 h2 h3
    obtain ⟨m, rfl⟩ : ∃ m, n = m + 1 := ⟨n - 1, by omega⟩
    rw [su0_lodgerref09_Has]
    unfold lodgerref09_Has_s0
    refine cf (decide_eq_false (by omega)) ?_
    rw [List.drop_eq_nil_of_le (by omega)]
    simp
  | succ d ih =>
    intro n j hn h1 h2 h3
    obtain ⟨m, rfl⟩ : ∃ m, n = m + 1 := ⟨n - 1, by omega⟩
    have hj : j < (s.length : Int) := by omega
    rw [su0_lodgerref09_Has]
    unfold lodgerref09_Has_s0
    rw [i64_in (j + 1) (by omega), drop_cons h1 hj]
    refine ct (decide_eq_true hj) (bnd (geti_eq h1 hj) ?_)
    by_cases q : gt s j = o
    · refine ct (beq_iff_eq.2 q) ?_
      rw [decide_eq_true]; rw [q]; exact List.mem_cons_self
    · refine cf (beq_eq_false_iff_ne.2 q) ?_
      rw [ih m (j + 1) (by omega) (by omega) (by omega) (by omega)]
      congr 1
      rw [decide_eq_decide, List.mem_cons]
      exact ⟨.inr, fun h => h.resolve_left (fun e => q e.symm)⟩
theorem sHas_eq {s : List Int} (few : s.length ≤ 100000) (o : Int) : lodgerref09_Has s o = some (decide (o ∈ s)) :=
  sHas_l s o few s.length big 0 (big_lt (by omega)) (by omega) (by omega) (by omega)
def rmv (o : Int) (s : List Int) : List Int := s.filter fun x => decide (x ≠ o)
theorem rWithout_l (s : List Int) (o : Int) (few : s.length ≤ 100000) : ∀ (d n : Nat) (j : Int) (acc : List Int), d < n → 0 ≤ j → ((s.length : Int) - j).toNat = d → j ≤ s.length → (acc.length : Int) ≤ j → lodgerref09_Without_l0 n s o j acc = some (acc ++ rmv o (s.drop j.toNat)) := by
  intro d
  induction d with
  | zero =>
    intro n j acc hn h1 h2 h3 h4
    obtain ⟨m, rfl⟩ : ∃ m, n = m + 1 := ⟨n - 1, by omega⟩
    rw [su0_lodgerref09_Without]
    unfold lodgerref09_Without_s0
    rw [List.drop_eq_nil_of_le (by omega)]
    exact cf (decide_eq_false (by omega)) (by simp [rmv])
  | succ d ih =>
    intro n j acc hn h1 h2 h3 h4
    obtain ⟨m, rfl⟩ : ∃ m, n = m + 1 := ⟨n - 1, by omega⟩
    have hj : j < (s.length : Int) := by omega
    have hmx : maxList = 137438953472 := rfl
    rw [su0_lodgerref09_Without]
    unfold lodgerref09_Without_s0
    rw [i64_in (j + 1) (by omega), drop_cons h1 hj]
    refine ct (decide_eq_true hj) (bnd (geti_eq h1 hj) ?_)
    by_cases q : gt s j = o
    · refine cf (by rw [q]; simp) ?_
      rw [ih m (j + 1) acc (by omega) (by omega) (by omega) (by omega) (by omega)]
      unfold rmv
      rw [List.filter_cons_of_neg (by simp [q])]
    · refine ct (bne_iff_ne.2 q) (bnd (geti_eq h1 hj) (ct (decide_eq_true (by simp only [List.length_singleton]; omega)) ?_))
      rw [ih m (j + 1) _ (by omega) (by omega) (by omega) (by omega) (by simp only [List.length_append, List.length_singleton]; omega)]
      unfold rmv
      rw [List.filter_cons_of_pos (by simp [q]), List.append_assoc]; rfl
theorem rWithout_eq {s : List Int} (few : s.length ≤ 100000) (o : Int) : lodgerref09_Without s o = some (rmv o s) :=
  (rWithout_l s o few s.length big 0 [] (big_lt (by omega)) (by omega) (by omega) (by omega) (by simp)).trans (by simp)
/-- Rising lists. -/
def Srt (s : List Int) : Prop := ∀ i j : Int, 0 ≤ i → i < j → j < (s.length : Int) → gt s i < gt s j
theorem mid_eq {a b : Int} (h0 : 0 ≤ a) (h1 : 0 ≤ b) (h2 : a + b ≤ 1000000) : IntKind.wrap .i64 (shr .u64 (IntKind.wrap .u64 (IntKind.wrap .i64 (a + b))) 1) = (a + b) / 2 := by
  rw [i64_in (a + b) (by omega), u64_in (a + b) (by omega), shr_u ⟨by omega, by omega⟩ (by omega)]
  have : (((a + b).toNat / 2 ^ min (1 : Int).toNat 64 : Nat) : Int) = (a + b) / 2 := by
    show (((a + b).toNat / 2 : Nat) : Int) = _
    omega
  rw [this, i64_in _ (by omega)]
theorem BS_l (s : List Int) (o : Int) (hs : Srt s) (few : s.length ≤ 100000) : ∀ (d n : Nat) (lo hi : Int), d < n → (hi - lo).toNat ≤ d → 0 ≤ lo → lo ≤ hi → hi ≤ s.length → (∀ j, 0 ≤ j → j < lo → gt s j < o) → (∀ j, hi ≤ j → j < (s.length : Int) → o ≤ gt s j) →
    ∃ p : Int, 0 ≤ p ∧ p ≤ s.length ∧ (∀ j, 0 ≤ j → j < p → gt s j < o) ∧ (∀ j, p ≤ j → j < (s.length : Int) → o ≤ gt s j) ∧ slices_BinarySearch_l0 n s o s.length lo hi = some (p, decide (p < (s.length : Int) ∧ gt s p = o)) := by
  intro d
  induction d with
  | zero =>
    intro n lo hi hn hd h0 h1 h2 h3 h4
    obtain ⟨m, rfl⟩ : ∃ m, n = m + 1 := ⟨n - 1, by omega⟩
    have e : lo = hi := by omega
    refine ⟨lo, h0, by omega, h3, fun j q1 q2 => h4 j (by omega) q2, ?_⟩
    rw [su0_slices_BinarySearch]
    unfold slices_BinarySearch_s0
    refine cf (decide_eq_false (by omega)) ?_
    by_cases q : lo < (s.length : Int)
    · refine ct (decide_eq_true q) (bnd (geti_eq h0 q) ?_)
      by_cases q2 : gt s lo = o
      · refine ct (beq_iff_eq.2 q2) ?_
        rw [decide_eq_true ⟨q, q2⟩]
      · refine cf (beq_eq_false_iff_ne.2 q2) (bnd (geti_eq h0 q) (cf (by simp) ?_))
        rw [decide_eq_false (fun e => q2 e.2)]
    · refine cf (decide_eq_false q) ?_
      rw [decide_eq_false (fun e => q e.1)]
  | succ d ih =>
    intro n lo hi hn hd h0 h1 h2 h3 h4
    by_cases e : lo = hi
    · obtain ⟨m, rfl⟩ : ∃ m, n = m + 1 := ⟨n - 1, by omega⟩
      refine ⟨lo, h0, by omega, h3, fun j q1 q2 => h4 j (by omega) q2, ?_⟩
      rw [su0_slices_BinarySearch]
      unfold slices_BinarySearch_s0
      refine cf (decide_eq_false (by omega)) ?_
      by_cases q : lo < (s.length : Int)
      · refine ct (decide_eq_true q) (bnd (geti_eq h0 q) ?_)
        by_cases q2 : gt s lo = o
        · refine ct (beq_iff_eq.2 q2) ?_
          rw [decide_eq_true ⟨q, q2⟩]
        · refine cf (beq_eq_false_iff_ne.2 q2) (bnd (geti_eq h0 q) (cf (by simp) ?_))
          rw [decide_eq_false (fun e => q2 e.2)]
      · refine cf (decide_eq_false q) ?_
        rw [decide_eq_false (fun e => q e.1)]
    · obtain ⟨m, rfl⟩ : ∃ m, n = m + 1 := ⟨n - 1, by omega⟩
      have hlt : lo < hi := by omega
      have hm := mid_eq (a := lo) (b := hi) h0 (by omega) (by omega)
      have m0 : 0 ≤ (lo + hi) / 2 := by omega
      have m1 : (lo + hi) / 2 < (s.length : Int) := by omega
      by_cases q : gt s ((lo + hi) / 2) < o
      · obtain ⟨p, p0, p1, p2, p3, p4⟩ := ih m ((lo + hi) / 2 + 1) hi (by omega) (by omega) (by omega) (by omega) h2 (fun j q1 q2 => by
          by_cases ej : j = (lo + hi) / 2
          · rw [ej]; exact q
          · exact Int.lt_trans (hs j ((lo + hi) / 2) q1 (by omega) m1) q) h4
        refine ⟨p, p0, p1, p2, p3, ?_⟩
        rw [su0_slices_BinarySearch]
        unfold slices_BinarySearch_s0
        rw [hm, i64_in ((lo + hi) / 2 + 1) (by omega)]
        exact ct (decide_eq_true hlt) (bnd (geti_eq m0 m1) (cf (by simp) (ct (decide_eq_true q) p4)))
      · obtain ⟨p, p0, p1, p2, p3, p4⟩ := ih m lo ((lo + hi) / 2) (by omega) (by omega) h0 (by omega) (by omega) h3 (fun j q1 q2 => by
          by_cases ej : j = (lo + hi) / 2
          · rw [ej]; omega
          · have := hs ((lo + hi) / 2) j m0 (by omega) q2
            omega)
        refine ⟨p, p0, p1, p2, p3, ?_⟩
        rw [su0_slices_BinarySearch]
        unfold slices_BinarySearch_s0
        rw [hm]
        exact ct (decide_eq_true hlt) (bnd (geti_eq m0 m1) (cf (by simp) (cf (decide_eq_false q) p4)))
theorem mem_gt {s : List Int} {o : Int} (h : o ∈ s) : ∃ j : Int, 0 ≤ j ∧ j < (s.length : Int) ∧ gt s j = o := by
  obtain ⟨i, hi⟩ := List.getElem?_of_mem h
  have hl := (List.getElem?_eq_some_iff.1 hi).1
  refine ⟨i, by omega, by omega, ?_⟩
  have := get?_gt (l := s) (i := (i : Int)) (by omega) (by omega)
  rw [Int.toNat_natCast, hi] at this
  exact (Option.some.inj this).symm
theorem BS_eq {s : List Int} (hs : Srt s) (few : s.length ≤ 100000) (o : Int) : ∃ p : Int, 0 ≤ p ∧ p ≤ s.length ∧ (∀ j, 0 ≤ j → j < p → gt s j < o) ∧ (∀ j, p ≤ j → j < (s.length : Int) → o ≤ gt s j) ∧ (o ∈ s → p < (s.length : Int) ∧ gt s p = o) ∧ slices_BinarySearch s o = some (p, decide (o ∈ s)) := by
  obtain ⟨p, p0, p1, p2, p3, p4⟩ := BS_l s o hs few s.length big 0 s.length (big_lt (by omega)) (by omega) (by omega) (by omega) (by omega) (fun j q1 q2 => by omega) (fun j q1 q2 => by omega)
  have hmem : o ∈ s ↔ p < (s.length : Int) ∧ gt s p = o := by
    constructor
    · intro h
      obtain ⟨j, j0, j1, j2⟩ := mem_gt h
      have hpj : p ≤ j := by
        by_cases q : p ≤ j
        · exact q
        · have := p2 j j0 (by omega); omega
      refine ⟨by omega, ?_⟩
      by_cases e : p = j
      · rw [e]; exact j2
      · have a := p3 p (Int.le_refl _) (by omega)
        have b := hs p j p0 (by omega) j1
        omega
    · rintro ⟨h1, h2⟩
      rw [← h2]; exact gt_mem p0 h1
  refine ⟨p, p0, p1, p2, p3, hmem.1, ?_⟩
  show slices_BinarySearch_l0 big s o s.length 0 s.length = _
  rw [p4, decide_eq_decide.2 hmem]
theorem take_lt {s : List Int} {p o : Int} (p0 : 0 ≤ p) (p1 : p ≤ (s.length : Int)) (h : ∀ j, 0 ≤ j → j < p → gt s j < o) : ∀ x, x ∈ s.take p.toNat → x < o := by
  intro x hx
  obtain ⟨i, hi⟩ := List.getElem?_of_mem hx
  have hl := (List.getElem?_eq_some_iff.1 hi).1
  rw [List.length_take] at hl
  rw [List.getElem?_take, if_pos (by omega)] at hi
  have := get?_gt (l := s) (i := (i : Int)) (by omega) (by omega)
  rw [Int.toNat_natCast, hi] at this
  rw [Option.some.inj this]
  exact h i (by omega) (by omega)
theorem insr_app {o : Int} : ∀ (a b : List Int), (∀ x, x ∈ a → x < o) → insr o (a ++ b) = a ++ insr o b
  | [], b, _ => rfl
  | x :: a, b, h => by
    have hx := h x List.mem_cons_self
    show (if x > o then o :: x :: (a ++ b) else if x = o then x :: (a ++ b) else x :: insr o (a ++ b)) = x :: (a ++ insr o b)
    rw [if_neg (by omega), if_neg (by omega), insr_app a b (fun y hy => h y (List.mem_cons_of_mem _ hy))]
theorem insr_mem_self {o : Int} {s : List Int} (hs : Srt s) : o ∈ s → insr o s = s := by
  intro h
  obtain ⟨j, j0, j1, j2⟩ := mem_gt h
  have e : s = s.take j.toNat ++ s.drop j.toNat := (List.take_append_drop _ _).symm
  have hd := drop_cons j0 j1
  have ha := take_lt (s := s) (p := j) (o := o) j0 (by omega) (fun i i0 i1 => by rw [← j2]; exact hs i j i0 i1 j1)
  rw [e, insr_app _ _ ha, hd, j2]
  unfold insr
  rw [if_neg (by omega), if_pos rfl]
theorem mHas_eq {s : List Int} (hs : Srt s) (few : s.length ≤ 100000) (o : Int) : model_Has s o = some (decide (o ∈ s)) := by
  obtain ⟨p, _, _, _, _, _, e⟩ := BS_eq hs few o
  unfold model_Has
  rw [e]; rfl
theorem mWith_eq {s : List Int} (hs : Srt s) (few : s.length ≤ 100000) (o : Int) : model_With s o = some (insr o s) := by
  obtain ⟨p, p0, p1, p2, p3, p5, e⟩ := BS_eq hs few o
  have hmx : maxList = 137438953472 := rfl
  unfold model_With
  refine bnd e ?_
  by_cases h : o ∈ s
  · refine ct (decide_eq_true h) ?_
    rw [insr_mem_self hs h]
  · refine cf (decide_eq_false h) ?_
    have ob : ∀ c, okBounds (s.length : Int) 0 p c = (match c with | some c => ieq p c | none => true) := by
      intro c; unfold okBounds
      rw [decide_eq_true ⟨Int.le_refl _, p0, p1⟩]; cases c <;> rfl
    refine ct ((ob (some p)).trans (by unfold ieq; simp)) ?_
    have l1 : ((s.take p.toNat).drop (Int.toNat 0)).length = p.toNat := by
      show (s.take p.toNat).length = _
      rw [List.length_take]; omega
    have e1 : (s.take p.toNat).drop (Int.toNat 0) = s.take p.toNat := rfl
    have e2 : (s.take (Int.toNat (s.length : Int))).drop p.toNat = s.drop p.toNat := by rw [Int.toNat_natCast, List.take_length]
    refine ct (decide_eq_true (by rw [l1]; simp only [List.length_singleton]; omega)) (ct ?_ (ct (decide_eq_true ?_) ?_))
    · unfold okBounds; rw [decide_eq_true ⟨p0, p1, Int.le_refl _⟩]; rfl
    · show ((s.take p.toNat).drop (Int.toNat 0) ++ [o]).length + ((s.take (Int.toNat (s.length : Int))).drop p.toNat).length ≤ maxList
      rw [e2, List.length_append, l1, List.length_drop]; simp only [List.length_singleton]; omega
    · show some ((s.take p.toNat).drop (Int.toNat 0) ++ [o] ++ (s.take (Int.toNat (s.length : Int))).drop p.toNat) = _
      rw [e1, e2]
      have ha := take_lt p0 p1 p2
      have hb : insr o (s.drop p.toNat) = o :: s.drop p.toNat := by
        by_cases q : p < (s.length : Int)
        · rw [drop_cons p0 q]
          unfold insr
          have := p3 p (Int.le_refl _) q
          have hne : gt s p ≠ o := fun e => h (by rw [← e]; exact gt_mem p0 q)
          rw [if_pos (by omega)]
        · rw [List.drop_eq_nil_of_le (by omega)]; rfl
      have : insr o s = s.take p.toNat ++ (o :: s.drop p.toNat) := by
        rw [← hb, ← insr_app _ _ ha, List.take_append_drop]
      rw [this, List.append_assoc]; rfl
theorem rmv_id {o : Int} {s : List Int} (h : o ∉ s) : rmv o s = s := by
  unfold rmv
  rw [List.filter_eq_self]
  intro x hx
  simp only [decide_eq_true_eq, ne_eq]
  intro e; exact h (e ▸ hx)
theorem mWithout_eq {s : List Int} (hs : Srt s) (few : s.length ≤ 100000) (o : Int) : model_Without s o = some (rmv o s) := by
  obtain ⟨p, p0, p1, p2, p3, p5, e⟩ := BS_eq hs few o
  have hmx : maxList = 137438953472 := rfl
  unfold model_Without
  refine bnd e ?_
  by_cases h : o ∈ s
  · refine cf (by simp [h]) ?_
    obtain ⟨q1, q2⟩ := p5 h
    rw [i64_in (p + 1) (by omega)]
    have e1 : (s.take p.toNat).drop (Int.toNat 0) = s.take p.toNat := rfl
    have e2 : (s.take (Int.toNat (s.length : Int))).drop (p + 1).toNat = s.drop (p + 1).toNat := by rw [Int.toNat_natCast, List.take_length]
    have res : rmv o s = s.take p.toNat ++ s.drop (p + 1).toNat := by
      have es : s = s.take p.toNat ++ (o :: s.drop (p + 1).toNat) := by
        rw [← q2, ← drop_cons p0 q1, List.take_append_drop]
      have ha : rmv o (s.take p.toNat) = s.take p.toNat := rmv_id fun hm => by have := take_lt p0 p1 p2 o hm; omega
      have hb : rmv o (s.drop (p + 1).toNat) = s.drop (p + 1).toNat := rmv_id fun hm => by
        obtain ⟨i, hi⟩ := List.getElem?_of_mem hm
        rw [List.getElem?_drop] at hi
        have hl := (List.getElem?_eq_some_iff.1 hi).1
        have g := get?_gt (l := s) (i := p + 1 + i) (by omega) (by omega)
        rw [show (p + 1 + (i : Int)).toNat = (p + 1).toNat + i by omega, hi] at g
        have := hs p (p + 1 + i) p0 (by omega) (by omega)
        have e := Option.some.inj g
        omega
      conv => lhs; rw [es]
      unfold rmv at ha hb ⊢
      rw [List.filter_append, ha, List.filter_cons_of_neg (by simp), hb]
    refine ct ?_ (ct ?_ ?_)
    · show okBounds (s.length : Int) 0 p (some p) = true
      unfold okBounds; rw [decide_eq_true ⟨Int.le_refl _, p0, p1⟩]; unfold ieq; simp
    · show okBounds (s.length : Int) (p + 1) (s.length : Int) none = true
      unfold okBounds; rw [decide_eq_true ⟨by omega, by omega, Int.le_refl _⟩]; rfl
    · show (bif ((s.take (Int.toNat (s.length : Int))).drop (p + 1).toNat).isEmpty then some ((s.take p.toNat).drop (Int.toNat 0)) else _) = _
      rw [e2, e1, res]
      cases hE : (s.drop (p + 1).toNat).isEmpty with
      | true =>
        have := List.isEmpty_iff.1 hE
        rw [this, List.append_nil]; rfl
      | false =>
        refine cf rfl (ct (decide_eq_true ?_) rfl)
        rw [List.length_take, List.length_drop]; omega
  · refine ct (by simp [h]) ?_
    rw [rmv_id h]
theorem mem_insr {o x : Int} : ∀ {s : List Int}, x ∈ insr o s ↔ x = o ∨ x ∈ s
  | [] => by simp [insr]
  | y :: r => by
    unfold insr
    split
    · simp
    · split
      · rename_i h; rw [← h]; simp
      · rw [List.mem_cons, mem_insr (s := r), List.mem_cons]
        constructor
        · rintro (h | h | h)
          · exact .inr (.inl h)
          · exact .inl h
          · exact .inr (.inr h)
        · rintro (h | h | h)
          · exact .inr (.inl h)
          · exact .inl h
          · exact .inr (.inr h)
theorem mem_rmv {o x : Int} {s : List Int} : x ∈ rmv o s ↔ x ∈ s ∧ x ≠ o := by unfold rmv; simp
/-- The same, by neighbours. -/
def Srp (s : List Int) : Prop := s.Pairwise (· < ·)
theorem Srp.srt {s : List Int} (h : Srp s) : Srt s := by
  intro i j i0 hij hj
  have hi' : i.toNat < s.length := by omega
  have hj' : j.toNat < s.length := by omega
  have := List.pairwise_iff_getElem.1 h i.toNat j.toNat hi' hj' (by omega)
  have e1 := get?_gt (l := s) (i := i) i0 (by omega)
  have e2 := get?_gt (l := s) (i := j) (by omega) hj
  rw [List.getElem?_eq_getElem hi'] at e1
  rw [List.getElem?_eq_getElem hj'] at e2
  rw [← Option.some.inj e1, ← Option.some.inj e2]; exact this
theorem Srp.insr {s : List Int} (h : Srp s) (o : Int) : Srp (insr o s) := by
  induction s with
  | nil => exact List.pairwise_singleton _ _
  | cons x r ih =>
    have h' := List.pairwise_cons.1 h
    unfold Go.Lv.Ld.insr
    split
    · rename_i q
      refine List.pairwise_cons.2 ⟨fun y hy => ?_, h⟩
      rcases List.mem_cons.1 hy with e | hy
      · rw [e]; exact q
      · exact Int.lt_trans q (h'.1 y hy)
    · split
      · exact h
      · rename_i q1 q2
        refine List.pairwise_cons.2 ⟨fun y hy => ?_, ih h'.2⟩
        rcases mem_insr.1 hy with e | hy
        · rw [e]; omega
        · exact h'.1 y hy
theorem Srp.rmv {s : List Int} (h : Srp s) (o : Int) : Srp (rmv o s) := List.Pairwise.filter _ h
/-- A rising list within bounds is short. -/
theorem Srp.len : ∀ {s : List Int} {a b : Int}, Srp s → a ≤ b → (∀ x, x ∈ s → a ≤ x ∧ x < b) → (s.length : Int) ≤ b - a
  | [], a, b, _, hab, _ => by simp; omega
  | x :: r, a, b, h, hab, hb => by
    have h' := List.pairwise_cons.1 h
    have hx := hb x List.mem_cons_self
    have := Srp.len (s := r) (a := x + 1) (b := b) h'.2 (by omega) fun y hy => ⟨by have := h'.1 y hy; omega, (hb y (List.mem_cons_of_mem _ hy)).2⟩
    simp only [List.length_cons]; omega
end
end Go.Lv.Ld
namespace Go.Lv.Ld
set_option linter.all false
noncomputable section
open Go Go.Lv Go.IntWalk
theorem top_le {b : Block} (h : OKb b) (d : Divs b) (ub : U32 b.base) : b.base + many b ≤ 4294967296 := by
  have hm := many_b h
  obtain ⟨h1, h2⟩ := h
  unfold Divs at d
  unfold U32 at ub
  have e : many b * 2 ^ b.pre.toNat = 4294967296 := by
    unfold many
    rw [← Int.pow_add, show (32 - b.pre).toNat + b.pre.toNat = 32 by omega]
    decide
  obtain ⟨q, hq⟩ := Int.dvd_of_emod_eq_zero d
  generalize many b = m at *
  generalize (2 : Int) ^ b.pre.toNat = p at *
  have hlt : q < p := by
    refine Int.not_le.1 fun hc => ?_
    have := Int.mul_le_mul_of_nonneg_left hc (show 0 ≤ m by omega)
    omega
  have := Int.mul_le_mul_of_nonneg_left (show q + 1 ≤ p by omega) (show 0 ≤ m by omega)
  rw [Int.mul_add] at this
  omega
theorem slices_Equal_55_l (a b : List Int) (hl : a.length = b.length) : ∀ (d n : Nat) (i : Int), d < n → 0 ≤ i → ((a.length : Int) - i).toNat = d → i ≤ a.length → a.length ≤ 4000000000000000000 →
    (∀ j : Int, 0 ≤ j → j < i → gt a j = gt b j) → slices_Equal_55_l0 n a b a.length i = some (decide (a = b)) := by
  intro d
  induction d with
  | zero =>
    intro n i hn h1 h2 h3 h4 h5
    obtain ⟨m, rfl⟩ : ∃ m, n = m + 1 := ⟨n - 1, by omega⟩
    rw [su0_slices_Equal_55]
    unfold slices_Equal_55_s0
    have : a = b := list_ext hl fun i q1 q2 => h5 i q1 (by omega)
    refine cf (decide_eq_false (by omega)) ?_
    rw [decide_eq_true this]
  | succ d ih =>
    intro n i hn h1 h2 h3 h4 h5
    obtain ⟨m, rfl⟩ : ∃ m, n = m + 1 := ⟨n - 1, by omega⟩
    have hi : i < (a.length : Int) := by omega
    have hi2 : i < (b.length : Int) := by omega
    rw [su0_slices_Equal_55]
    unfold slices_Equal_55_s0
    rw [i64_in (i + 1) (by omega)]
    have hx := ih m (i + 1) (by omega) (by omega) (by omega) (by omega) h4
    refine ct (decide_eq_true hi) (bnd (geti_eq h1 hi) (bnd (geti_eq h1 hi2) ?_))
    by_cases c : gt a i = gt b i
    · refine cf (by rw [c]; simp) (hx fun j q1 q2 => ?_)
      by_cases e : j = i
      · rw [e, c]
      · exact h5 j q1 (by omega)
    · refine ct (bne_iff_ne.2 c) ?_
      rw [decide_eq_false fun e => c (by rw [e])]
theorem slices_Equal_55_eq (a b : List Int) (h : a.length ≤ 4000000000000000000) : slices_Equal_55 a b = some (decide (a = b)) := by
  unfold slices_Equal_55 slices_Equal_55_n slices_Equal_55_e
  by_cases c : a.length = b.length
  · refine cf (by rw [c]; simp) ?_
    exact slices_Equal_55_l a b c a.length big 0 (big_lt (by omega)) (by omega) (by omega) (by omega) h fun j q1 q2 => by omega
  · refine ct (bne_iff_ne.2 (by omega)) ?_
    rw [decide_eq_false]
    intro e; exact c (by rw [e])
theorem slices_Equal_56_l (a b : List Int) (hl : a.length = b.length) : ∀ (d n : Nat) (i : Int), d < n → 0 ≤ i → ((a.length : Int) - i).toNat = d → i ≤ a.length → a.length ≤ 4000000000000000000 →
    (∀ j : Int, 0 ≤ j → j < i → gt a j = gt b j) → slices_Equal_56_l0 n a b a.length i = some (decide (a = b)) := by
  intro d
  induction d with
  | zero =>
    intro n i hn h1 h2 h3 h4 h5
    obtain ⟨m, rfl⟩ : ∃ m, n = m + 1 := ⟨n - 1, by omega⟩
    rw [su0_slices_Equal_56]
    unfold slices_Equal_56_s0
    have : a = b := list_ext hl fun i q1 q2 => h5 i q1 (by omega)
    refine cf (decide_eq_false (by omega)) ?_
    rw [decide_eq_true this]
  | succ d ih =>
    intro n i hn h1 h2 h3 h4 h5
    obtain ⟨m, rfl⟩ : ∃ m, n = m + 1 := ⟨n - 1, by omega⟩
    have hi : i < (a.length : Int) := by omega
    have hi2 : i < (b.length : Int) := by omega
    rw [su0_slices_Equal_56]
    unfold slices_Equal_56_s0
    rw [i64_in (i + 1) (by omega)]
    have hx := ih m (i + 1) (by omega) (by omega) (by omega) (by omega) h4
    refine ct (decide_eq_true hi) (bnd (geti_eq h1 hi) (bnd (geti_eq h1 hi2) ?_))
    by_cases c : gt a i = gt b i
    · refine cf (by rw [c]; simp) (hx fun j q1 q2 => ?_)
      by_cases e : j = i
      · rw [e, c]
      · exact h5 j q1 (by omega)
    · refine ct (bne_iff_ne.2 c) ?_
      rw [decide_eq_false fun e => c (by rw [e])]
theorem slices_Equal_56_eq (a b : List Int) (h : a.length ≤ 4000000000000000000) : slices_Equal_56 a b = some (decide (a = b)) := by
  unfold slices_Equal_56 slices_Equal_56_n slices_Equal_56_e
  by_cases c : a.length = b.length
  · refine cf (by rw [c]; simp) ?_
    exact slices_Equal_56_l a b c a.length big 0 (big_lt (by omega)) (by omega) (by omega) (by omega) h fun j q1 q2 => by omega
  · refine ct (bne_iff_ne.2 (by omega)) ?_
    rw [decide_eq_false]
    intro e; exact c (by rw [e])
/-- Are two answers the same? -/
def an (x y : Answer) : Bool := x.err == y.err && x.addr == y.addr && x.used == y.used && decide (x.addrs = y.addrs) && decide (x.errs = y.errs)
def fl (e : Int) : Answer := ⟨e, 0, false, [], []⟩
theorem an_iff {x y : Answer} : an x y = true ↔ x = y := by
  cases x; cases y
  unfold an
  simp only [Bool.and_eq_true, beq_iff_eq, decide_eq_true_eq, Answer.mk.injEq]
  constructor
  · rintro ⟨⟨⟨⟨a, b⟩, c⟩, d⟩, e⟩; exact ⟨a, b, c, d, e⟩
  · rintro ⟨a, b, c, d, e⟩; exact ⟨⟨⟨⟨a, b⟩, c⟩, d⟩, e⟩
theorem an_ne {x y : Answer} (h : x ≠ y) : an x y = false := by
  cases e : an x y with
  | false => rfl
  | true => exact absurd (an_iff.1 e) h
theorem an_self (x : Answer) : an x x = true := an_iff.2 rfl
theorem chain_an {x y : Answer} {f g : Option Bool} (hf : f = some (decide (x.addrs = y.addrs))) (hg : g = some (decide (x.errs = y.errs))) :
    (bif (x.err == y.err) then (bif (x.addr == y.addr) then (bif (x.used == y.used) then (f.bind fun r1 => (bif r1 then (g.bind fun r2 => some r2) else some false)) else some false) else some false) else some false) = some (an x y) := by
  rw [hf, hg]
  unfold an
  cases (x.err == y.err) <;> cases (x.addr == y.addr) <;> cases (x.used == y.used) <;> cases decide (x.addrs = y.addrs) <;> rfl
theorem Same_an {x y : Answer} (h : x.addrs.length ≤ 100000) (h2 : x.errs.length ≤ 100000) : spec_Same x y = some (an x y) :=
  chain_an (slices_Equal_55_eq _ _ (by omega)) (slices_Equal_56_eq _ _ (by omega))
theorem Answers_an {x y : Answer} (h : x.addrs.length ≤ 100000) (h2 : x.errs.length ≤ 100000) : lodgerref08_Answers x y = some (an x y) :=
  chain_an (lodgerref08_Addrs_eq _ _ (by omega)) (lodgerref08_Errs_eq _ _ (by omega))
theorem only_an {x : Answer} {e : Int} (h : x.addrs.length ≤ 100000) (h2 : x.errs.length ≤ 100000) : lodgerref11_only x e = some (an x (fl e)) := by
  unfold lodgerref11_only
  rw [Answers_an h h2]; rfl
/-- An address, looked at. -/
def fp (c : Conf) (a : Int) : Int × Int := if ins c.block a then (if heldB c (a - c.block.base) then (0, 4) else (a - c.block.base, 0)) else (0, 3)
theorem fp_fnd (c : Conf) (a : Int) : (fp c a).2 = fnd c a := by
  unfold fp fnd
  split
  · split <;> rfl
  · rfl
theorem fp_ok {c : Conf} {a : Int} (h : fnd c a = 0) : fp c a = (a - c.block.base, 0) ∧ ins c.block a ∧ heldB c (a - c.block.base) = false := by
  unfold fnd at h
  unfold fp
  split at h
  · rename_i h1
    split at h
    · cases h
    · rename_i h2
      rw [if_pos h1, if_neg h2]
      exact ⟨rfl, h1, by simpa using h2⟩
  · cases h
theorem rFind_p {c : Conf} (ok : OKc c) (ub : U32 c.block.base) {a : Int} (ha : U32 a) : lodgerref05_Find c a = some (fp c a) := by
  unfold lodgerref05_Find fp
  rw [rOffset_eq ok.blk ub ha]
  by_cases q : ins c.block a
  · rw [if_pos q, if_pos q]
    cases hh : heldB c (a - c.block.base)
    · exact bnd rfl (cf rfl (bnd ((rHeld_eq ok.few _).trans (congrArg some hh)) (cf rfl rfl)))
    · exact bnd rfl (cf rfl (bnd ((rHeld_eq ok.few _).trans (congrArg some hh)) (ct rfl rfl)))
  · rw [if_neg q, if_neg q]
    exact bnd rfl (ct rfl rfl)
theorem Find_p {c : Conf} (ok : OKc c) (ub : U32 c.block.base) {a : Int} (ha : U32 a) : block_Find c a = some (fp c a) := by
  unfold block_Find fp
  rw [Offset_eq ok.blk ub ha]
  by_cases q : ins c.block a
  · rw [if_pos q, if_pos q]
    cases hh : heldB c (a - c.block.base)
    · exact bnd rfl (cf rfl (bnd ((Held_eq ok.few _).trans (congrArg some hh)) (cf rfl rfl)))
    · exact bnd rfl (cf rfl (bnd ((Held_eq ok.few _).trans (congrArg some hh)) (ct rfl rfl)))
  · rw [if_neg q, if_neg q]
    exact bnd rfl (ct rfl rfl)
/-- What is asked of a set. -/
structure SOK (c : Conf) (s : List Int) : Prop where
  srp : Srp s
  bd : ∀ x, x ∈ s → 0 ≤ x ∧ x < many c.block
theorem SOK.len {c : Conf} {s : List Int} (h : SOK c s) (few : many c.block ≤ 256) (ok : OKc c) : s.length ≤ 256 := by
  have := Srp.len h.srp (a := 0) (b := many c.block) (by have := many_b ok.blk; omega) h.bd
  omega
theorem SOK.insr {c : Conf} {s : List Int} (h : SOK c s) {o : Int} (h0 : 0 ≤ o) (h1 : o < many c.block) : SOK c (insr o s) := ⟨h.srp.insr o, fun x hx => by
  rcases mem_insr.1 hx with e | hx
  · rw [e]; exact ⟨h0, h1⟩
  · exact h.bd x hx⟩
theorem SOK.rmv {c : Conf} {s : List Int} (h : SOK c s) (o : Int) : SOK c (rmv o s) := ⟨h.srp.rmv o, fun x hx => h.bd x (mem_rmv.1 hx).1⟩
/-- The least that is free. -/
def fr (c : Conf) (s : List Int) : Nat → Int → Option Int
  | 0, _ => none
  | d + 1, i => if heldB c i = true ∨ i ∈ s then fr c s d (i + 1) else some i
theorem fr_some {c : Conf} {s : List Int} : ∀ (d : Nat) (i o : Int), fr c s d i = some o → i ≤ o ∧ o < i + d ∧ heldB c o = false ∧ o ∉ s
  | 0, i, o, h => by cases h
  | d + 1, i, o, h => by
    unfold fr at h
    split at h
    · obtain ⟨a, b, c', e⟩ := fr_some d (i + 1) o h
      exact ⟨by omega, by omega, c', e⟩
    · rename_i q
      cases h
      exact ⟨by omega, by omega, by simpa using fun e => q (.inl e), fun e => q (.inr e)⟩
def ad (c : Conf) (o : Int) : Int := IntKind.wrap .u32 (c.block.base + IntKind.wrap .u32 o)
theorem ad_eq {c : Conf} (ok : OKc c) (ub : U32 c.block.base) {o : Int} (h0 : 0 ≤ o) (h1 : o < many c.block) : ad c o = c.block.base + o := by
  have := top_le ok.blk ok.base ub
  have := ub.1
  unfold ad
  rw [u32_in o (by omega), u32_in _ (by omega)]
theorem least_l (c : Conf) (s : List Int) (ok : OKc c) (few : many c.block ≤ 256) (hs : SOK c s) (m2 : Answer) : ∀ (d n : Nat) (i : Int), d < n → 0 ≤ i → (many c.block - i).toNat = d → i ≤ many c.block →
    spec_least_l0 n s (many c.block) i c m2 = some (match fr c s d i with | some o => (insr o s, ⟨0, ad c o, false, [], []⟩) | none => (s, fl 9)) := by
  have hl := hs.len few ok
  intro d
  induction d with
  | zero =>
    intro n i hn h1 h2 h3
    obtain ⟨m, rfl⟩ : ∃ m, n = m + 1 := ⟨n - 1, by omega⟩
    rw [su0_spec_least]
    unfold spec_least_s0
    exact cf (decide_eq_false (by omega)) rfl
  | succ d ih =>
    intro n i hn h1 h2 h3
    obtain ⟨m, rfl⟩ : ∃ m, n = m + 1 := ⟨n - 1, by omega⟩
    have ih := ih m (i + 1) (by omega) (by omega) (by omega) (by omega)
    rw [su0_spec_least]
    unfold spec_least_s0
    rw [i64_in (i + 1) (by omega)]
    refine ct (decide_eq_true (by omega)) (bnd (Held_eq ok.few i) ?_)
    cases hh : heldB c i with
    | true =>
      refine cf rfl ?_
      rw [ih, show fr c s (d + 1) i = fr c s d (i + 1) from if_pos (.inl hh)]
    | false =>
      refine ct rfl (bnd (mHas_eq hs.srp.srt (by omega) i) ?_)
      by_cases q : i ∈ s
      · refine cf (by simp [q]) ?_
        rw [ih, show fr c s (d + 1) i = fr c s d (i + 1) from if_pos (.inr q)]
      · refine ct (by simp [q]) (bnd (mWith_eq hs.srp.srt (by omega) i) ?_)
        rw [show fr c s (d + 1) i = some i from if_neg (fun e => e.elim (fun e => by rw [hh] at e; cases e) q)]
        rfl
theorem least_eq {c : Conf} {s : List Int} (ok : OKc c) (few : many c.block ≤ 256) (hs : SOK c s) (a : Ask) : spec_least c s a = some (match fr c s (many c.block).toNat 0 with | some o => (insr o s, ⟨0, ad c o, false, [], []⟩) | none => (s, fl 9)) := by
  have hm := many_b ok.blk
  unfold spec_least spec_least_n spec_least_e
  refine bnd (Many_eq ok.blk) ?_
  exact least_l c s ok few hs _ (many c.block).toNat big 0 (big_lt (by omega)) (by omega) (by omega) (by omega)
theorem Full_l (c : Conf) (s : List Int) (ok : OKc c) (few : many c.block ≤ 256) (hs : SOK c s) : ∀ (d n : Nat) (i : Int), d < n → 0 ≤ i → (many c.block - i).toNat = d → i ≤ many c.block → lodgerref09_Full_l0 n s i c = some (fr c s d i).isNone := by
  have hl := hs.len few ok
  intro d
  induction d with
  | zero =>
    intro n i hn h1 h2 h3
    obtain ⟨m, rfl⟩ : ∃ m, n = m + 1 := ⟨n - 1, by omega⟩
    rw [su0_lodgerref09_Full]
    unfold lodgerref09_Full_s0
    exact bnd (rMany_eq ok.blk) (cf (decide_eq_false (by omega)) rfl)
  | succ d ih =>
    intro n i hn h1 h2 h3
    obtain ⟨m, rfl⟩ : ∃ m, n = m + 1 := ⟨n - 1, by omega⟩
    have ih := ih m (i + 1) (by omega) (by omega) (by omega) (by omega)
    rw [su0_lodgerref09_Full]
    unfold lodgerref09_Full_s0
    rw [i64_in (i + 1) (by omega)]
    refine bnd (rMany_eq ok.blk) (ct (decide_eq_true (by omega)) (bnd (rHeld_eq ok.few i) ?_))
    cases hh : heldB c i with
    | true =>
      refine cf rfl ?_
      rw [ih, show fr c s (d + 1) i = fr c s d (i + 1) from if_pos (.inl hh)]
    | false =>
      refine ct rfl (bnd (sHas_eq (by omega) i) ?_)
      by_cases q : i ∈ s
      · refine cf (by simp [q]) ?_
        rw [ih, show fr c s (d + 1) i = fr c s d (i + 1) from if_pos (.inr q)]
      · refine ct (by simp [q]) ?_
        rw [show fr c s (d + 1) i = some i from if_neg (fun e => e.elim (fun e => by rw [hh] at e; cases e) q)]
        rfl
theorem Full_eq {c : Conf} {s : List Int} (ok : OKc c) (few : many c.block ≤ 256) (hs : SOK c s) : lodgerref09_Full c s = some (fr c s (many c.block).toNat 0).isNone := by
  have hm := many_b ok.blk
  exact Full_l c s ok few hs (many c.block).toNat big 0 (big_lt (by omega)) (by omega) (by omega) (by omega)
theorem mAddrs_l (c : Conf) (s : List Int) (few : s.length ≤ 100000) : ∀ (d n : Nat) (j : Int) (acc : List Int), d < n → 0 ≤ j → ((s.length : Int) - j).toNat = d → j ≤ s.length → (acc.length : Int) = j → model_Addrs_l0 n s s.length j c acc = some (acc ++ (s.drop j.toNat).map (ad c)) := by
  intro d
  induction d with
  | zero =>
    intro n j acc hn h1 h2 h3 h4
    obtain ⟨m, rfl⟩ : ∃ m, n = m + 1 := ⟨n - 1, by omega⟩
    rw [su0_model_Addrs]
    unfold model_Addrs_s0
    rw [List.drop_eq_nil_of_le (by omega)]
    exact cf (decide_eq_false (by omega)) (by simp)
  | succ d ih =>
    intro n j acc hn h1 h2 h3 h4
    obtain ⟨m, rfl⟩ : ∃ m, n = m + 1 := ⟨n - 1, by omega⟩
    have hj : j < (s.length : Int) := by omega
    have hmx : maxList = 137438953472 := rfl
    rw [su0_model_Addrs]
    unfold model_Addrs_s0
    rw [i64_in (j + 1) (by omega), drop_cons h1 hj]
    refine ct (decide_eq_true hj) (bnd (geti_eq h1 hj) (bnd (a := ad c (gt s j)) rfl (ct (decide_eq_true (by simp only [List.length_singleton]; omega)) ?_)))
    rw [ih m (j + 1) _ (by omega) (by omega) (by omega) (by omega) (by simp only [List.length_append, List.length_singleton]; omega), List.append_assoc]; rfl
theorem mAddrs_eq {s : List Int} (c : Conf) (few : s.length ≤ 100000) : model_Addrs c s = some (s.map (ad c)) :=
  (mAddrs_l c s few s.length big 0 [] (big_lt (by omega)) (by omega) (by omega) (by omega) rfl).trans (by simp)
theorem rAddrs_l (c : Conf) (s : List Int) (few : s.length ≤ 100000) : ∀ (d n : Nat) (j : Int) (acc : List Int), d < n → 0 ≤ j → ((s.length : Int) - j).toNat = d → j ≤ s.length → (acc.length : Int) = j → lodgerref09_Addrs_l0 n s j c acc = some (acc ++ (s.drop j.toNat).map (ad c)) := by
  intro d
  induction d with
  | zero =>
    intro n j acc hn h1 h2 h3 h4
    obtain ⟨m, rfl⟩ : ∃ m, n = m + 1 := ⟨n - 1, by omega⟩
    rw [su0_lodgerref09_Addrs]
    unfold lodgerref09_Addrs_s0
    rw [List.drop_eq_nil_of_le (by omega)]
    exact cf (decide_eq_false (by omega)) (by simp)
  | succ d ih =>
    intro n j acc hn h1 h2 h3 h4
    obtain ⟨m, rfl⟩ : ∃ m, n = m + 1 := ⟨n - 1, by omega⟩
    have hj : j < (s.length : Int) := by omega
    have hmx : maxList = 137438953472 := rfl
    rw [su0_lodgerref09_Addrs]
    unfold lodgerref09_Addrs_s0
    rw [i64_in (j + 1) (by omega), drop_cons h1 hj]
    refine ct (decide_eq_true hj) (bnd (geti_eq h1 hj) (ct (decide_eq_true (by simp only [List.length_singleton]; omega)) ?_))
    rw [ih m (j + 1) _ (by omega) (by omega) (by omega) (by omega) (by simp only [List.length_append, List.length_singleton]; omega), List.append_assoc]; rfl
theorem rAddrs_eq {s : List Int} (c : Conf) (few : s.length ≤ 100000) : lodgerref09_Addrs c s = some (s.map (ad c)) :=
  (rAddrs_l c s few s.length big 0 [] (big_lt (by omega)) (by omega) (by omega) (by omega) rfl).trans (by simp)
/-- A batch of releases. -/
def bt (c : Conf) : List Int → List Int → List Int × List Int
  | [], s => (s, [])
  | x :: r, s => let o := x - c.block.base; let b := bt c r (rmv o s); (b.1, (if o ∈ s then 0 else 6) :: b.2)
theorem bt_ok {c : Conf} : ∀ {l s : List Int}, SOK c s → SOK c (bt c l s).1
  | [], s, h => h
  | x :: r, s, h => bt_ok (l := r) (h.rmv _)
theorem release_eq {c : Conf} {s : List Int} (ok : OKc c) (ub : U32 c.block.base) (few : many c.block ≤ 256) (hs : SOK c s) {a : Ask} (ha : U32 a.addr) (hf : fnd c a.addr = 0) :
    spec_release c s a = some (if a.addr - c.block.base ∈ s then (rmv (a.addr - c.block.base) s, fl 0) else (s, fl 6)) := by
  have hl := hs.len few ok
  unfold spec_release spec_offset
  rw [Find_p ok ub ha, (fp_ok hf).1]
  refine bnd rfl (bnd (mHas_eq hs.srp.srt (by omega) _) ?_)
  show (bif (not (decide (a.addr - c.block.base ∈ s))) then _ else _) = _
  by_cases q : a.addr - c.block.base ∈ s
  · rw [if_pos q]
    exact cf (by simp [q]) (bnd (mWithout_eq hs.srp.srt (by omega) _) rfl)
  · rw [if_neg q]
    exact ct (by simp [q]) rfl
theorem batch_l (c : Conf) (l : List Int) (ok : OKc c) (ub : U32 c.block.base) (few : many c.block ≤ 256) (hu : ∀ x, x ∈ l → U32 x) (hf : ∀ x, x ∈ l → fnd c x = 0) (fewl : l.length ≤ 100000) : ∀ (d n : Nat) (i : Int) (s es : List Int), d < n → 0 ≤ i → ((l.length : Int) - i).toNat = d → i ≤ l.length → SOK c s → (es.length : Int) = i →
    spec_batch_l0 n s l l.length i c 0 0 false 0 0 false es = some ((bt c (l.drop i.toNat) s).1, ⟨0, 0, false, [], es ++ (bt c (l.drop i.toNat) s).2⟩) := by
  intro d
  induction d with
  | zero =>
    intro n i s es hn h1 h2 h3 hs h4
    obtain ⟨m, rfl⟩ : ∃ m, n = m + 1 := ⟨n - 1, by omega⟩
    rw [su0_spec_batch]
    unfold spec_batch_s0
    rw [List.drop_eq_nil_of_le (by omega)]
    exact cf (decide_eq_false (by omega)) (by simp [bt])
  | succ d ih =>
    intro n i s es hn h1 h2 h3 hs h4
    obtain ⟨m, rfl⟩ : ∃ m, n = m + 1 := ⟨n - 1, by omega⟩
    have hj : i < (l.length : Int) := by omega
    have hmx : maxList = 137438953472 := rfl
    have hx := gt_mem h1 hj
    rw [su0_spec_batch]
    unfold spec_batch_s0
    rw [i64_in (i + 1) (by omega), drop_cons h1 hj]
    refine ct (decide_eq_true hj) (bnd (geti_eq h1 hj) (bnd (release_eq ok ub few hs (a := ⟨0, gt l i, []⟩) (hu _ hx) (hf _ hx)) ?_))
    show (bif (decide (es.length + _ ≤ maxList)) then _ else _) = _
    refine ct (decide_eq_true (by simp only [List.length_singleton]; omega)) ?_
    have ih := fun s hs e => ih m (i + 1) s (es ++ [e]) (by omega) (by omega) (by omega) (by omega) hs (by simp only [List.length_append, List.length_singleton]; omega)
    by_cases q : gt l i - c.block.base ∈ s
    · have := ih (rmv (gt l i - c.block.base) s) (hs.rmv _) 0
      rw [if_pos (show (⟨0, gt l i, []⟩ : Ask).addr - c.block.base ∈ s from q)]
      show spec_batch_l0 m (rmv (gt l i - c.block.base) s) l l.length (i + 1) c 0 0 false 0 0 false (es ++ [0]) = _
      rw [this]
      show _ = some ((bt c (l.drop (i + 1).toNat) (rmv (gt l i - c.block.base) s)).1, (⟨0, 0, false, [], es ++ ((if gt l i - c.block.base ∈ s then 0 else 6) :: (bt c (l.drop (i + 1).toNat) (rmv (gt l i - c.block.base) s)).2)⟩ : Answer))
      rw [if_pos q, List.append_assoc]; rfl
    · have := ih s hs 6
      rw [if_neg (show ¬ (⟨0, gt l i, []⟩ : Ask).addr - c.block.base ∈ s from q)]
      show spec_batch_l0 m s l l.length (i + 1) c 0 0 false 0 0 false (es ++ [6]) = _
      rw [this]
      show _ = some ((bt c (l.drop (i + 1).toNat) (rmv (gt l i - c.block.base) s)).1, (⟨0, 0, false, [], es ++ ((if gt l i - c.block.base ∈ s then 0 else 6) :: (bt c (l.drop (i + 1).toNat) (rmv (gt l i - c.block.base) s)).2)⟩ : Answer))
      rw [if_neg q, rmv_id q, List.append_assoc]; rfl
end
end Go.Lv.Ld
namespace Go.Lv.Ld
set_option linter.all false
noncomputable section
open Go Go.Lv Go.IntWalk
/-- Whether an answer is right, and the set behind it. -/
def lg (c : Conf) (s : List Int) (a : Ask) (x : Answer) : List Int × Bool :=
  if an x (fl 10) = true then (s, true) else if an x (fl 12) = true then (s, true) else if ck c a ≠ 0 then (s, an x (fl (ck c a))) else
  if a.kind = 1 then (if an x (fl 9) = true then (s, (fr c s (many c.block).toNat 0).isNone) else if an x ⟨0, x.addr, false, [], []⟩ = true then (if fnd c x.addr ≠ 0 then (s, false) else if x.addr - c.block.base ∈ s then (s, false) else (insr (x.addr - c.block.base) s, true)) else (s, false))
  else if a.kind = 2 then (if a.addr - c.block.base ∈ s then (s, an x (fl 5)) else if an x ⟨0, a.addr, false, [], []⟩ = true then (insr (a.addr - c.block.base) s, true) else (s, false))
  else if a.kind = 3 then (if a.addr - c.block.base ∈ s then (if an x (fl 0) = true then (rmv (a.addr - c.block.base) s, true) else (s, false)) else (s, an x (fl 6)))
  else if a.kind = 4 then (if an x ⟨0, 0, false, [], (bt c a.addrs s).2⟩ = true then ((bt c a.addrs s).1, true) else (s, false))
  else if a.kind = 5 then (s, an x ⟨0, 0, decide (a.addr - c.block.base ∈ s), [], []⟩)
  else if a.kind = 6 then (if an x (fl 11) = true then (s, true) else (s, an x ⟨0, 0, false, s.map (ad c), []⟩))
  else (s, an x (fl 0))
theorem rbatch_l (c : Conf) (a : Ask) (x : Answer) (s0 : List Int) (hx1 : x.addrs.length ≤ 100000) (hx2 : x.errs.length ≤ 100000) (ok : OKc c) (ub : U32 c.block.base) (few : many c.block ≤ 256) (hu : ∀ y, y ∈ a.addrs → U32 y) (hf : ∀ y, y ∈ a.addrs → fnd c y = 0) (fewl : a.addrs.length ≤ 100000) :
    ∀ (d n : Nat) (i : Int) (s es : List Int), d < n → 0 ≤ i → ((a.addrs.length : Int) - i).toNat = d → i ≤ a.addrs.length → SOK c s → (es.length : Int) = i →
    lodgerref11_Legal_l0 n s0 s i c a x es = some (if an x ⟨0, 0, false, [], es ++ (bt c (a.addrs.drop i.toNat) s).2⟩ = true then ((bt c (a.addrs.drop i.toNat) s).1, true) else (s0, false)) := by
  intro d
  induction d with
  | zero =>
    intro n i s es hn h1 h2 h3 hs h4
    obtain ⟨m, rfl⟩ : ∃ m, n = m + 1 := ⟨n - 1, by omega⟩
    rw [su0_lodgerref11_Legal]
    unfold lodgerref11_Legal_s0
    rw [List.drop_eq_nil_of_le (by omega)]
    refine cf (decide_eq_false (by omega)) (bnd (Answers_an hx1 hx2) ?_)
    show _ = some (if an x ⟨0, 0, false, [], es ++ []⟩ = true then (s, true) else (s0, false))
    rw [List.append_nil]
    cases an x ⟨0, 0, false, [], es⟩ <;> rfl
  | succ d ih =>
    intro n i s es hn h1 h2 h3 hs h4
    obtain ⟨m, rfl⟩ : ∃ m, n = m + 1 := ⟨n - 1, by omega⟩
    have hj : i < (a.addrs.length : Int) := by omega
    have hmx : maxList = 137438953472 := rfl
    have hx := gt_mem h1 hj
    have hl := hs.len few ok
    obtain ⟨p1, p2, p3⟩ := fp_ok (hf _ hx)
    rw [su0_lodgerref11_Legal]
    unfold lodgerref11_Legal_s0
    rw [i64_in (i + 1) (by omega), drop_cons h1 hj]
    refine ct (decide_eq_true hj) (bnd (geti_eq h1 hj) (bnd (rOffset_eq ok.blk ub (hu _ hx)) ?_))
    rw [if_pos p2]
    refine bnd (sHas_eq (by omega) _) ?_
    have ih := fun e => ih m (i + 1) (rmv (gt a.addrs i - c.block.base) s) (es ++ [e]) (by omega) (by omega) (by omega) (by omega) (hs.rmv _) (by simp only [List.length_append, List.length_singleton]; omega)
    show _ = some (if an x (⟨0, 0, false, [], es ++ ((if gt a.addrs i - c.block.base ∈ s then 0 else 6) :: (bt c (a.addrs.drop (i + 1).toNat) (rmv (gt a.addrs i - c.block.base) s)).2)⟩ : Answer) = true then ((bt c (a.addrs.drop (i + 1).toNat) (rmv (gt a.addrs i - c.block.base) s)).1, true) else (s0, false))
    by_cases q : gt a.addrs i - c.block.base ∈ s
    · refine ct (decide_eq_true q) (ct (decide_eq_true (by simp only [List.length_singleton]; omega)) (bnd (rWithout_eq (by omega) _) ?_))
      show lodgerref11_Legal_l0 m s0 (rmv (gt a.addrs i - c.block.base) s) (i + 1) c a x (es ++ [0]) = _
      rw [ih 0, if_pos q, List.append_assoc]; rfl
    · refine cf (decide_eq_false q) (ct (decide_eq_true (by simp only [List.length_singleton]; omega)) (bnd (rWithout_eq (by omega) _) ?_))
      show lodgerref11_Legal_l0 m s0 (rmv (gt a.addrs i - c.block.base) s) (i + 1) c a x (es ++ [6]) = _
      rw [ih 6, if_neg q, List.append_assoc]; rfl
theorem ck_one {c : Conf} {a : Ask} (h : ck c a = 0) (k : one a) : fnd c a.addr = 0 := by
  have h0 := ck_kind h
  unfold one at k
  unfold ck at h
  rw [if_neg (by omega), if_neg (fun e => by omega), if_neg (fun e => by omega)] at h
  have e : nam a = [a.addr] := if_pos (show one a from k)
  rw [e] at h
  exact chk_all _ _ h _ (by simp)
structure LOK (c : Conf) (s : List Int) (a : Ask) (x : Answer) : Prop where
  ok : OKc c
  ub : U32 c.block.base
  few : many c.block ≤ 256
  set : SOK c s
  ask : WAsk a
  fewa : a.addrs.length ≤ 100
  xa : U32 x.addr
  x1 : x.addrs.length ≤ 100000
  x2 : x.errs.length ≤ 100000
theorem rLegal_eq {c : Conf} {s : List Int} {a : Ask} {x : Answer} (h : LOK c s a x) : lodgerref11_Legal c s a x = some (lg c s a x) := by
  obtain ⟨ok, ub, few, hs, wa, fewa, xa, x1, x2⟩ := h
  have hl := hs.len few ok
  unfold lodgerref11_Legal lodgerref11_Legal_n lodgerref11_Legal_e lg
  refine bnd (only_an x1 x2) ?_
  by_cases h10 : an x (fl 10) = true
  · rw [if_pos h10]; exact ct h10 rfl
  rw [if_neg h10]
  refine cf (by simpa using h10) (bnd (only_an x1 x2) ?_)
  by_cases h12 : an x (fl 12) = true
  · rw [if_pos h12]; exact ct h12 rfl
  rw [if_neg h12]
  refine cf (by simpa using h12) (bnd (rCheck_eq ok ub wa fewa) ?_)
  by_cases hk : ck c a = 0
  rotate_left
  · rw [if_pos hk]; exact ct (bne_iff_ne.2 hk) (bnd (only_an x1 x2) rfl)
  rw [if_neg (by simp [hk])]
  refine cf (by rw [hk]; rfl) (bnd (rOffset_eq ok.blk ub wa.addr) ?_)
  rw [off_1]
  refine bnd (sHas_eq (by omega) _) ?_
  by_cases k1 : a.kind = 1
  · rw [if_pos k1]
    refine ct (beq_iff_eq.2 k1) (bnd (only_an x1 x2) ?_)
    by_cases h9 : an x (fl 9) = true
    · rw [if_pos h9]; exact ct h9 (bnd (Full_eq ok few hs) rfl)
    rw [if_neg h9]
    refine cf (by simpa using h9) (bnd (rFind_p ok ub xa) (bnd (Answers_an x1 x2) ?_))
    by_cases hA : an x ⟨0, x.addr, false, [], []⟩ = true
    rotate_left
    · rw [if_neg hA]; exact ct (by simpa using hA) rfl
    rw [if_pos hA]
    refine cf (by rw [hA]; rfl) ?_
    rw [fp_fnd]
    by_cases hf : fnd c x.addr = 0
    rotate_left
    · rw [if_pos hf]; exact ct (bne_iff_ne.2 hf) rfl
    rw [if_neg (by simp [hf])]
    refine cf (by rw [hf]; rfl) ?_
    rw [(fp_ok hf).1]
    refine bnd (sHas_eq (by omega) _) ?_
    by_cases q : x.addr - c.block.base ∈ s
    · rw [if_pos q]; exact ct (decide_eq_true q) rfl
    · rw [if_neg q]; exact cf (decide_eq_false q) (bnd (With_eq (by omega)) rfl)
  rw [if_neg k1]
  refine cf (beq_eq_false_iff_ne.2 k1) ?_
  have hoff : one a → off c.block a.addr = a.addr - c.block.base := fun k => by
    have := (fp_ok (ck_one hk k)).2.1
    unfold off; rw [if_pos this]
  by_cases k2 : a.kind = 2
  · rw [if_pos k2, hoff (.inl k2)]
    refine ct (beq_iff_eq.2 k2) ?_
    by_cases q : a.addr - c.block.base ∈ s
    · rw [if_pos q]; exact ct (decide_eq_true q) (bnd (only_an x1 x2) rfl)
    rw [if_neg q]
    refine cf (decide_eq_false q) (bnd (Answers_an x1 x2) ?_)
    by_cases hA : an x ⟨0, a.addr, false, [], []⟩ = true
    · rw [if_pos hA]; exact cf (by rw [hA]; rfl) (bnd (With_eq (by omega)) rfl)
    · rw [if_neg hA]; exact ct (by simpa using hA) rfl
  rw [if_neg k2]
  refine cf (beq_eq_false_iff_ne.2 k2) ?_
  by_cases k3 : a.kind = 3
  · rw [if_pos k3, hoff (.inr (.inl k3))]
    refine ct (beq_iff_eq.2 k3) ?_
    by_cases q : a.addr - c.block.base ∈ s
    · rw [if_pos q]
      refine cf (by simp [q]) (bnd (only_an x1 x2) ?_)
      by_cases hA : an x (fl 0) = true
      · rw [if_pos hA]; exact cf (by rw [hA]; rfl) (bnd (rWithout_eq (by omega) _) rfl)
      · rw [if_neg hA]; exact ct (by simpa using hA) rfl
    · rw [if_neg q]; exact ct (by simp [q]) (bnd (only_an x1 x2) rfl)
  rw [if_neg k3]
  refine cf (beq_eq_false_iff_ne.2 k3) ?_
  by_cases k4 : a.kind = 4
  · rw [if_pos k4]
    refine ct (beq_iff_eq.2 k4) ?_
    have hf := chk_all _ _ (ck_four hk k4).2.2
    have := rbatch_l c a x s x1 x2 ok ub few wa.addrs.2 hf (by omega) a.addrs.length big 0 s [] (big_lt (by omega)) (by omega) (by omega) (by omega) hs rfl
    exact this
  rw [if_neg k4]
  refine cf (beq_eq_false_iff_ne.2 k4) ?_
  by_cases k5 : a.kind = 5
  · rw [if_pos k5, hoff (.inr (.inr k5))]
    exact ct (beq_iff_eq.2 k5) (bnd (Answers_an x1 x2) rfl)
  rw [if_neg k5]
  refine cf (beq_eq_false_iff_ne.2 k5) ?_
  by_cases k6 : a.kind = 6
  · rw [if_pos k6]
    refine ct (beq_iff_eq.2 k6) (bnd (only_an x1 x2) ?_)
    by_cases h11 : an x (fl 11) = true
    · rw [if_pos h11]; exact ct h11 rfl
    · rw [if_neg h11]; exact cf (by simpa using h11) (bnd (rAddrs_eq c (by omega)) (bnd (Answers_an x1 x2) rfl))
  rw [if_neg k6]
  exact cf (beq_eq_false_iff_ne.2 k6) (bnd (only_an x1 x2) rfl)
/-- Some right answer. -/
def sm (c : Conf) (s : List Int) (a : Ask) : List Int × Answer :=
  if ck c a ≠ 0 then (s, fl (ck c a)) else
  if a.kind = 1 then (match fr c s (many c.block).toNat 0 with | some o => (insr o s, ⟨0, ad c o, false, [], []⟩) | none => (s, fl 9))
  else if a.kind = 2 then (if a.addr - c.block.base ∈ s then (s, fl 5) else (insr (a.addr - c.block.base) s, ⟨0, a.addr, false, [], []⟩))
  else if a.kind = 3 then (if a.addr - c.block.base ∈ s then (rmv (a.addr - c.block.base) s, fl 0) else (s, fl 6))
  else if a.kind = 4 then ((bt c a.addrs s).1, ⟨0, 0, false, [], (bt c a.addrs s).2⟩)
  else if a.kind = 5 then (s, ⟨0, 0, decide (a.addr - c.block.base ∈ s), [], []⟩)
  else if a.kind = 6 then (s, ⟨0, 0, false, s.map (ad c), []⟩)
  else (s, fl 0)
theorem Some_eq {c : Conf} {s : List Int} {a : Ask} (ok : OKc c) (ub : U32 c.block.base) (few : many c.block ≤ 256) (hs : SOK c s) (wa : WAsk a) (fewa : a.addrs.length ≤ 100) : spec_Some c s a = some (sm c s a) := by
  have hl := hs.len few ok
  have nk : ∀ k : Int, a.kind ≠ k → ieq a.kind k = false := fun k h => ieq_ne h
  have yk : ∀ k : Int, a.kind = k → ieq a.kind k = true := fun k h => ieq_iff.2 h
  unfold spec_Some sm
  refine bnd (ask_Check_eq ok ub wa fewa) ?_
  by_cases hk : ck c a = 0
  rotate_left
  · rw [if_pos hk]; exact ct (bne_iff_ne.2 hk) rfl
  rw [if_neg (by simp [hk])]
  refine cf (by rw [hk]; rfl) ?_
  have hkk := ck_kind hk
  by_cases k1 : a.kind = 1
  · rw [if_pos k1]; exact ct (yk _ k1) (bnd (least_eq ok few hs a) rfl)
  rw [if_neg k1]
  refine cf (nk _ k1) ?_
  by_cases k2 : a.kind = 2
  · rw [if_pos k2]
    refine ct (yk _ k2) ?_
    unfold spec_exact spec_offset
    rw [Find_p ok ub wa.addr, (fp_ok (ck_one hk (.inl k2))).1]
    show ((model_Has s (a.addr - c.block.base)).bind _).bind _ = _
    rw [mHas_eq hs.srp.srt (by omega)]
    by_cases q : a.addr - c.block.base ∈ s
    · rw [if_pos q]
      show (bif decide (a.addr - c.block.base ∈ s) then _ else _ : Option _).bind _ = _
      rw [decide_eq_true q]; rfl
    · rw [if_neg q]
      show (bif decide (a.addr - c.block.base ∈ s) then _ else _ : Option _).bind _ = _
      rw [decide_eq_false q, mWith_eq hs.srp.srt (by omega)]; rfl
  rw [if_neg k2]
  refine cf (nk _ k2) ?_
  by_cases k3 : a.kind = 3
  · rw [if_pos k3]
    refine ct (yk _ k3) (bnd (release_eq ok ub few hs wa.addr (ck_one hk (.inr (.inl k3)))) ?_)
    split <;> rfl
  rw [if_neg k3]
  refine cf (nk _ k3) ?_
  by_cases k4 : a.kind = 4
  · rw [if_pos k4]
    have hf := chk_all _ _ (ck_four hk k4).2.2
    refine ct (yk _ k4) (bnd (batch_l c a.addrs ok ub few wa.addrs.2 hf (by omega) a.addrs.length big 0 s [] (big_lt (by omega)) (by omega) (by omega) (by omega) hs rfl) rfl)
  rw [if_neg k4]
  refine cf (nk _ k4) ?_
  by_cases k5 : a.kind = 5
  · rw [if_pos k5]
    refine ct (yk _ k5) ?_
    unfold spec_query spec_offset
    rw [Find_p ok ub wa.addr, (fp_ok (ck_one hk (.inr (.inr k5)))).1]
    show ((model_Has s (a.addr - c.block.base)).bind _).bind _ = _
    rw [mHas_eq hs.srp.srt (by omega)]; rfl
  rw [if_neg k5]
  refine cf (nk _ k5) ?_
  by_cases k6 : a.kind = 6
  · rw [if_pos k6]
    refine ct (yk _ k6) ?_
    unfold spec_snapshot
    rw [mAddrs_eq c (by omega)]; rfl
  rw [if_neg k6]
  exact cf (nk _ k6) (ct (yk _ (by omega)) rfl)
end
end Go.Lv.Ld
namespace Go.Lv.Ld
set_option linter.all false
noncomputable section
open Go Go.Lv Go.IntWalk
/-- The same, as the program tells it. -/
def ms (c : Conf) (s : List Int) (a : Ask) (x : Answer) : List Int × Bool :=
  if an x (fl 10) = true then (s, true) else if an x (fl 12) = true then (s, true) else if an x (sm c s a).2 = true then ((sm c s a).1, true) else if ck c a ≠ 0 then (s, false) else
  if a.kind = 6 then (if an x (fl 11) = true then (s, true) else (s, false)) else if a.kind = 1 then
    (if an x ⟨0, x.addr, false, [], []⟩ = true then (if fnd c x.addr = 0 then (if x.addr - c.block.base ∈ s then (s, false) else (insr (x.addr - c.block.base) s, true)) else (s, false)) else (s, false)) else (s, false)
theorem Legal_ms {c : Conf} {s : List Int} {a : Ask} {x : Answer} (h : LOK c s a x) : spec_Legal c s a x = some (ms c s a x) := by
  obtain ⟨ok, ub, few, hs, wa, fewa, xa, x1, x2⟩ := h
  have hl := hs.len few ok
  unfold spec_Legal ms
  refine bnd (a := fl 10) rfl (bnd (Same_an x1 x2) ?_)
  by_cases h10 : an x (fl 10) = true
  · rw [if_pos h10]; exact ct h10 rfl
  rw [if_neg h10]
  refine cf (by simpa using h10) (bnd (a := fl 12) rfl (bnd (Same_an x1 x2) ?_))
  by_cases h12 : an x (fl 12) = true
  · rw [if_pos h12]; exact ct h12 rfl
  rw [if_neg h12]
  refine cf (by simpa using h12) (bnd (Some_eq ok ub few hs wa fewa) (bnd (Same_an x1 x2) ?_))
  by_cases hS : an x (sm c s a).2 = true
  · rw [if_pos hS]; exact ct hS rfl
  rw [if_neg hS]
  refine cf (by simpa using hS) (bnd (ask_Check_eq ok ub wa fewa) ?_)
  by_cases hk : ck c a = 0
  rotate_left
  · rw [if_pos hk]; exact ct (bne_iff_ne.2 hk) rfl
  rw [if_neg (by simp [hk])]
  refine cf (by rw [hk]; rfl) ?_
  have gr : a.kind = 1 → ((spec_Same x (⟨0, x.addr, false, [], []⟩ : Answer)).bind fun r14 => (bif r14 then ((block_Find c x.addr).bind fun r15 => (bif (r15.2 == 0) then ((model_Has s r15.1).bind fun r16 => (bif (not r16) then ((model_With s r15.1).bind fun r17 => some (r17, true)) else some (s, false))) else some (s, false))) else some (s, false))) =
      some (if an x ⟨0, x.addr, false, [], []⟩ = true then (if fnd c x.addr = 0 then (if x.addr - c.block.base ∈ s then (s, false) else (insr (x.addr - c.block.base) s, true)) else (s, false)) else (s, false)) := by
    intro _
    refine bnd (Same_an x1 x2) ?_
    by_cases hA : an x ⟨0, x.addr, false, [], []⟩ = true
    rotate_left
    · rw [if_neg hA]; exact cf (by simpa using hA) rfl
    rw [if_pos hA]
    refine ct hA (bnd (Find_p ok ub xa) ?_)
    rw [fp_fnd]
    by_cases hf : fnd c x.addr = 0
    rotate_left
    · rw [if_neg hf]; exact cf (beq_eq_false_iff_ne.2 hf) rfl
    rw [if_pos hf]
    refine ct (beq_iff_eq.2 hf) ?_
    rw [(fp_ok hf).1]
    refine bnd (mHas_eq hs.srp.srt (by omega) _) ?_
    by_cases q : x.addr - c.block.base ∈ s
    · rw [if_pos q]; exact cf (by simp [q]) rfl
    · rw [if_neg q]; exact ct (by simp [q]) (bnd (mWith_eq hs.srp.srt (by omega) _) rfl)
  by_cases k6 : a.kind = 6
  · rw [if_pos k6]
    refine ct (beq_iff_eq.2 k6) (bnd (a := fl 11) rfl (bnd (Same_an x1 x2) ?_))
    by_cases h11 : an x (fl 11) = true
    · rw [if_pos h11]; exact ct h11 rfl
    · rw [if_neg h11]; exact cf (by simpa using h11) (cf (beq_eq_false_iff_ne.2 (by omega)) rfl)
  rw [if_neg k6]
  refine cf (beq_eq_false_iff_ne.2 k6) ?_
  by_cases k1 : a.kind = 1
  · rw [if_pos k1]; exact ct (beq_iff_eq.2 k1) (gr k1)
  · rw [if_neg k1]; exact cf (beq_eq_false_iff_ne.2 k1) rfl
theorem bif_an {x y : Answer} {s t : List Int} : (if an x y = true then (s, true) else (s, false)) = (s, an x y) := by
  cases an x y <;> rfl
theorem ms_lg {c : Conf} {s : List Int} {a : Ask} {x : Answer} (h : LOK c s a x) : ms c s a x = lg c s a x := by
  obtain ⟨ok, ub, few, hs, wa, fewa, xa, x1, x2⟩ := h
  unfold ms lg
  by_cases h10 : an x (fl 10) = true
  · rw [if_pos h10, if_pos h10]
  rw [if_neg h10, if_neg h10]
  by_cases h12 : an x (fl 12) = true
  · rw [if_pos h12, if_pos h12]
  rw [if_neg h12, if_neg h12]
  by_cases hk : ck c a = 0
  rotate_left
  · have e : sm c s a = (s, fl (ck c a)) := if_pos hk
    rw [e, if_pos hk, if_pos hk]
    exact bif_an (t := s)
  rw [if_neg (show ¬ ck c a ≠ 0 by simp [hk]), if_neg (show ¬ ck c a ≠ 0 by simp [hk])]
  have hkk := ck_kind hk
  have e0 : sm c s a = if a.kind = 1 then (match fr c s (many c.block).toNat 0 with | some o => (insr o s, ⟨0, ad c o, false, [], []⟩) | none => (s, fl 9))
      else if a.kind = 2 then (if a.addr - c.block.base ∈ s then (s, fl 5) else (insr (a.addr - c.block.base) s, ⟨0, a.addr, false, [], []⟩))
      else if a.kind = 3 then (if a.addr - c.block.base ∈ s then (rmv (a.addr - c.block.base) s, fl 0) else (s, fl 6))
      else if a.kind = 4 then ((bt c a.addrs s).1, ⟨0, 0, false, [], (bt c a.addrs s).2⟩)
      else if a.kind = 5 then (s, ⟨0, 0, decide (a.addr - c.block.base ∈ s), [], []⟩)
      else if a.kind = 6 then (s, ⟨0, 0, false, s.map (ad c), []⟩)
      else (s, fl 0) := if_neg (by simp [hk])
  by_cases k1 : a.kind = 1
  · rw [if_pos k1] at e0
    rw [if_neg (show ¬ a.kind = 6 by omega), if_pos k1, if_pos k1]
    have same : (if an x ⟨0, x.addr, false, [], []⟩ = true then (if fnd c x.addr = 0 then (if x.addr - c.block.base ∈ s then (s, false) else (insr (x.addr - c.block.base) s, true)) else (s, false)) else (s, false)) =
        (if an x ⟨0, x.addr, false, [], []⟩ = true then (if fnd c x.addr ≠ 0 then (s, false) else if x.addr - c.block.base ∈ s then (s, false) else (insr (x.addr - c.block.base) s, true)) else (s, false)) := by
      by_cases hf : fnd c x.addr = 0
      · rw [if_pos hf, if_neg (show ¬ fnd c x.addr ≠ 0 by simp [hf])]
      · rw [if_neg hf, if_pos hf]
    rw [same]
    cases hfr : fr c s (many c.block).toNat 0 with
    | none =>
      rw [hfr] at e0
      rw [show sm c s a = (s, fl 9) from e0]
      by_cases h9 : an x (fl 9) = true
      · rw [if_pos h9, if_pos h9]; rfl
      · rw [if_neg h9, if_neg h9]
    | some o =>
      rw [hfr] at e0
      rw [show sm c s a = (insr o s, ⟨0, ad c o, false, [], []⟩) from e0]
      obtain ⟨o1, o2, o3, o4⟩ := fr_some _ _ _ hfr
      have hm := many_b ok.blk
      have ho : o < many c.block := by omega
      by_cases hx : an x ⟨0, ad c o, false, [], []⟩ = true
      · rw [if_pos hx]
        have ex := an_iff.1 hx
        have h9 : ¬ an x (fl 9) = true := by rw [ex, an_iff]; intro e; cases e
        have hxa : x.addr = ad c o := by rw [ex]
        have hA : an x ⟨0, x.addr, false, [], []⟩ = true := by rw [hxa]; exact hx
        have had := ad_eq ok ub (o := o) o1 ho
        have hsub : x.addr - c.block.base = o := by rw [hxa, had]; omega
        have hins : ins c.block x.addr := by unfold ins; omega
        have hf : fnd c x.addr = 0 := by
          unfold fnd; rw [if_pos hins, hsub, o3]; rfl
        rw [if_neg h9, if_pos hA, if_neg (show ¬ fnd c x.addr ≠ 0 by simp [hf]), hsub, if_neg o4]
      · rw [if_neg hx]
        by_cases h9 : an x (fl 9) = true
        · rw [if_pos h9]
          have ex := an_iff.1 h9
          have hA : ¬ an x ⟨0, x.addr, false, [], []⟩ = true := by rw [an_iff, ex]; intro e; cases e
          rw [if_neg hA]; rfl
        · rw [if_neg h9]
  rw [if_neg k1] at e0
  rw [if_neg k1, if_neg k1]
  by_cases k2 : a.kind = 2
  · rw [if_pos k2] at e0
    rw [if_pos k2, if_neg (show ¬ a.kind = 6 by omega), e0]
    by_cases q : a.addr - c.block.base ∈ s
    · rw [if_pos q, if_pos q]; exact bif_an (t := s)
    · rw [if_neg q, if_neg q]
  rw [if_neg k2] at e0
  rw [if_neg k2]
  by_cases k3 : a.kind = 3
  · rw [if_pos k3] at e0
    rw [if_pos k3, if_neg (show ¬ a.kind = 6 by omega), e0]
    by_cases q : a.addr - c.block.base ∈ s
    · rw [if_pos q, if_pos q]
    · rw [if_neg q, if_neg q]; exact bif_an (t := s)
  rw [if_neg k3] at e0
  rw [if_neg k3]
  by_cases k4 : a.kind = 4
  · rw [if_pos k4] at e0
    rw [if_pos k4, if_neg (show ¬ a.kind = 6 by omega), e0]
  rw [if_neg k4] at e0
  rw [if_neg k4]
  by_cases k5 : a.kind = 5
  · rw [if_pos k5] at e0
    rw [if_pos k5, if_neg (show ¬ a.kind = 6 by omega), e0]
    exact bif_an (t := s)
  rw [if_neg k5] at e0
  rw [if_neg k5]
  by_cases k6 : a.kind = 6
  · rw [if_pos k6] at e0
    rw [if_pos k6, if_pos k6, e0]
    by_cases h11 : an x (fl 11) = true
    · rw [if_pos h11, if_pos h11]
      split
      · rfl
      · rfl
    · rw [if_neg h11, if_neg h11]
      exact bif_an (t := s)
  rw [if_neg k6] at e0
  rw [if_neg k6, if_neg k6, e0]
  exact bif_an (t := s)
theorem Legal_eq {c : Conf} {s : List Int} {a : Ask} {x : Answer} (h : LOK c s a x) : spec_Legal c s a x = some (lg c s a x) := (Legal_ms h).trans (congrArg some (ms_lg h))
theorem lg_ok {c : Conf} {s : List Int} {a : Ask} {x : Answer} (h : LOK c s a x) : SOK c (lg c s a x).1 := by
  obtain ⟨ok, ub, few, hs, wa, fewa, xa, x1, x2⟩ := h
  have inr : ∀ y, fnd c y = 0 → 0 ≤ y - c.block.base ∧ y - c.block.base < many c.block := fun y hy => by
    have := (fp_ok hy).2.1
    unfold ins at this; omega
  have ite_ok : ∀ (b : Prop) [Decidable b] (p q : List Int × Bool), (b → SOK c p.1) → (¬ b → SOK c q.1) → SOK c (if b then p else q).1 := fun b _ p q h1 h2 => by
    by_cases hb : b
    · rw [if_pos hb]; exact h1 hb
    · rw [if_neg hb]; exact h2 hb
  unfold lg
  refine ite_ok _ _ _ (fun _ => hs) fun _ => ite_ok _ _ _ (fun _ => hs) fun _ => ite_ok _ _ _ (fun _ => hs) fun hk => ?_
  have hk : ck c a = 0 := Decidable.not_not.1 hk
  refine ite_ok _ _ _ (fun _ => ite_ok _ _ _ (fun _ => hs) fun _ => ite_ok _ _ _ (fun _ => ite_ok _ _ _ (fun _ => hs) fun hf => ite_ok _ _ _ (fun _ => hs) fun _ => ?_) fun _ => hs) fun _ => ?_
  · have hf := Decidable.not_not.1 hf
    exact hs.insr (inr _ hf).1 (inr _ hf).2
  refine ite_ok _ _ _ (fun k2 => ite_ok _ _ _ (fun _ => hs) fun _ => ite_ok _ _ _ (fun _ => hs.insr (inr _ (ck_one hk (.inl k2))).1 (inr _ (ck_one hk (.inl k2))).2) fun _ => hs) fun _ => ?_
  refine ite_ok _ _ _ (fun _ => ite_ok _ _ _ (fun _ => ite_ok _ _ _ (fun _ => hs.rmv _) fun _ => hs) fun _ => hs) fun _ => ?_
  refine ite_ok _ _ _ (fun _ => ite_ok _ _ _ (fun _ => bt_ok hs) fun _ => hs) fun _ => ?_
  exact ite_ok _ _ _ (fun _ => hs) fun _ => ite_ok _ _ _ (fun _ => ite_ok _ _ _ (fun _ => hs) fun _ => hs) fun _ => hs
end
end Go.Lv.Ld
