import Derived.Test.YtonphdpgepnenaaDoorLvP5
import Derived.Test.YtonphdpgepnenaaDoorLvD5
namespace Go.Lv.Ld
set_option linter.all false
noncomputable section
open Go Go.Lv Go.IntWalk

theorem awake21 : lodgerlaw21_awake = some true := by kernel_rfl
def heldB (c : Conf) (o : Int) : Bool := decide (o ∈ c.held)
theorem drop_cons {l : List Int} {i : Int} (h0 : 0 ≤ i) (h : i < (l.length : Int)) : l.drop i.toNat = gt l i :: l.drop (i + 1).toNat := by
  rw [List.drop_eq_getElem_cons (show i.toNat < l.length by omega)]
  have e := get?_gt h0 h
  rw [List.getElem?_eq_getElem (show i.toNat < l.length by omega), Option.some.injEq] at e
  rw [e, show (i + 1).toNat = i.toNat + 1 by omega]
theorem Held_l (c : Conf) (o : Int) (few : c.held.length ≤ 64) : ∀ (d n : Nat) (j : Int), d < n → 0 ≤ j → ((c.held.length : Int) - j).toNat = d → j ≤ c.held.length → lodgerref05_Held_l0 n o j c = some (decide (o ∈ c.held.drop j.toNat)) := by
  intro d
  induction d with
  | zero =>
    intro n j hn h1 h2 h3
    obtain ⟨m, rfl⟩ : ∃ m, n = m + 1 := ⟨n - 1, by omega⟩
    rw [su0_lodgerref05_Held]
    unfold lodgerref05_Held_s0
    refine cf (decide_eq_false (by omega)) ?_
    rw [List.drop_eq_nil_of_le (by omega)]
    simp
  | succ d ih =>
    intro n j hn h1 h2 h3
    obtain ⟨m, rfl⟩ : ∃ m, n = m + 1 := ⟨n - 1, by omega⟩
    have hj : j < (c.held.length : Int) := by omega
    rw [su0_lodgerref05_Held]
    unfold lodgerref05_Held_s0
    rw [i64_in (j + 1) (by omega), drop_cons h1 hj]
    refine ct (decide_eq_true hj) ?_
    refine bnd (geti_eq h1 hj) ?_
    by_cases q : gt c.held j = o
    · refine ct (beq_iff_eq.2 q) ?_
      rw [decide_eq_true]; rw [q]; exact List.mem_cons_self
    · refine cf (beq_eq_false_iff_ne.2 q) ?_
      rw [ih m (j + 1) (by omega) (by omega) (by omega) (by omega)]
      congr 1
      rw [decide_eq_decide, List.mem_cons]
      exact ⟨.inr, fun h => h.resolve_left (fun e => q e.symm)⟩
theorem rHeld_eq {c : Conf} (few : c.held.length ≤ 64) (o : Int) : lodgerref05_Held c o = some (heldB c o) := by
  have := Held_l c o few c.held.length big 0 (big_lt (by omega)) (by omega) (by omega) (by omega)
  exact this
/-- What is wrong with an address. -/
def fnd (c : Conf) (x : Int) : Int := if ins c.block x then (if heldB c (x - c.block.base) then 4 else 0) else 3
theorem rFind_e {c : Conf} (ok : OKc c) (ub : U32 c.block.base) {a : Int} (ha : U32 a) : ∃ y, lodgerref05_Find c a = some (y, fnd c a) := by
  unfold lodgerref05_Find fnd
  rw [rOffset_eq ok.blk ub ha]
  by_cases q : ins c.block a
  · rw [if_pos q, if_pos q]
    cases hh : heldB c (a - c.block.base)
    · exact ⟨_, bnd rfl (cf rfl (bnd ((rHeld_eq ok.few _).trans (congrArg some hh)) (cf rfl rfl)))⟩
    · exact ⟨_, bnd rfl (cf rfl (bnd ((rHeld_eq ok.few _).trans (congrArg some hh)) (ct rfl rfl)))⟩
  · rw [if_neg q, if_neg q]
    exact ⟨_, bnd rfl (ct rfl rfl)⟩
theorem Index_l (l : List Int) (x : Int) (few : l.length ≤ 100000) : ∀ (d n : Nat) (j : Int), d < n → 0 ≤ j → ((l.length : Int) - j).toNat = d → j ≤ l.length → ∃ r, slices_Index_l0 n l x l.length j = some r ∧ decide (r ≥ 0) = decide (x ∈ l.drop j.toNat) := by
  intro d
  induction d with
  | zero =>
    intro n j hn h1 h2 h3
    obtain ⟨m, rfl⟩ : ∃ m, n = m + 1 := ⟨n - 1, by omega⟩
    rw [su0_slices_Index]
    unfold slices_Index_s0
    refine ⟨-1, cf (decide_eq_false (by omega)) rfl, ?_⟩
    rw [List.drop_eq_nil_of_le (by omega)]
    simp
  | succ d ih =>
    intro n j hn h1 h2 h3
    obtain ⟨m, rfl⟩ : ∃ m, n = m + 1 := ⟨n - 1, by omega⟩
    have hj : j < (l.length : Int) := by omega
    rw [su0_slices_Index]
    unfold slices_Index_s0
    rw [i64_in (j + 1) (by omega), drop_cons h1 hj]
    by_cases q : x = gt l j
    · refine ⟨j, ct (decide_eq_true hj) (bnd (geti_eq h1 hj) (ct (beq_iff_eq.2 q) rfl)), ?_⟩
      rw [decide_eq_true h1, decide_eq_true]; rw [q]; exact List.mem_cons_self
    · obtain ⟨r, e1, e2⟩ := ih m (j + 1) (by omega) (by omega) (by omega) (by omega)
      refine ⟨r, ct (decide_eq_true hj) (bnd (geti_eq h1 hj) (cf (beq_eq_false_iff_ne.2 q) e1)), ?_⟩
      rw [e2, decide_eq_decide, List.mem_cons]
      exact ⟨.inr, fun h => h.resolve_left q⟩
theorem Held_eq {c : Conf} (few : c.held.length ≤ 64) (o : Int) : block_Held c o = some (heldB c o) := by
  unfold block_Held slices_Contains slices_Index slices_Index_n slices_Index_e
  obtain ⟨r, e1, e2⟩ := Index_l c.held o (by omega) c.held.length big 0 (big_lt (by omega)) (by omega) (by omega) (by omega)
  rw [e1]
  exact congrArg some e2
theorem Find_e {c : Conf} (ok : OKc c) (ub : U32 c.block.base) {a : Int} (ha : U32 a) : ∃ y, block_Find c a = some (y, fnd c a) := by
  unfold block_Find fnd
  rw [Offset_eq ok.blk ub ha]
  by_cases q : ins c.block a
  · rw [if_pos q, if_pos q]
    cases hh : heldB c (a - c.block.base)
    · exact ⟨_, bnd rfl (cf rfl (bnd ((Held_eq ok.few _).trans (congrArg some hh)) (cf rfl rfl)))⟩
    · exact ⟨_, bnd rfl (cf rfl (bnd ((Held_eq ok.few _).trans (congrArg some hh)) (ct rfl rfl)))⟩
  · rw [if_neg q, if_neg q]
    exact ⟨_, bnd rfl (ct rfl rfl)⟩

/-- What is wrong with addresses, behind those that were. -/
def chk (c : Conf) : List Int → List Int → Int
  | [], _ => 0
  | x :: r, s => if fnd c x ≠ 0 then fnd c x else if x ∈ s then 8 else chk c r (x :: s)
theorem ieq_iff {a b : Int} : ieq a b = true ↔ a = b := by unfold ieq; exact beq_iff_eq
theorem ieq_ne {a b : Int} (h : a ≠ b) : ieq a b = false := by unfold ieq; exact beq_eq_false_iff_ne.2 h
theorem mget_mput (y x : Int) : ∀ m, mget y (mput x true m) = (decide (y = x) || mget y m)
  | [] => by
    by_cases h : y = x
    · subst h; simp [mput, mget, ieq]
    · simp [mput, mget, ieq, h]
  | p :: r => by
    have ih := mget_mput y x r
    unfold mput
    by_cases h : x = p.1
    · rw [ieq_iff.2 h, cond_true]
      unfold mget
      by_cases q : y = x
      · simp [ieq, q]
      · rw [ieq_ne q, ieq_ne (show y ≠ p.1 from fun e => q (e.trans h.symm))]
        simp [q]
    · rw [ieq_ne h, cond_false]
      unfold mget
      rw [ih]
      by_cases q : y = p.1
      · have : y ≠ x := fun e => h (e.symm.trans q)
        rw [ieq_iff.2 q]
        simp [this]
      · rw [ieq_ne q]; simp
theorem Check_l (c : Conf) (l : List Int) (ok : OKc c) (ub : U32 c.block.base) (hu : ∀ x, x ∈ l → U32 x) (few : l.length ≤ 100000) : ∀ (d n : Nat) (i : Int) (m : List (Int × Bool)) (s : List Int), d < n → 0 ≤ i → ((l.length : Int) - i).toNat = d → i ≤ l.length → (∀ x, mget x m = decide (x ∈ s)) →
    ask_Check_l0 n l l.length i c m = some (chk c (l.drop i.toNat) s) := by
  intro d
  induction d with
  | zero =>
    intro n i m s hn h1 h2 h3 hm
    obtain ⟨k, rfl⟩ : ∃ m, n = m + 1 := ⟨n - 1, by omega⟩
    rw [su0_ask_Check]
    unfold ask_Check_s0
    rw [List.drop_eq_nil_of_le (by omega)]
    exact cf (decide_eq_false (by omega)) rfl
  | succ d ih =>
    intro n i m s hn h1 h2 h3 hm
    obtain ⟨k, rfl⟩ : ∃ m, n = m + 1 := ⟨n - 1, by omega⟩
    have hj : i < (l.length : Int) := by omega
    rw [su0_ask_Check]
    unfold ask_Check_s0
    rw [i64_in (i + 1) (by omega), drop_cons h1 hj]
    refine ct (decide_eq_true hj) (bnd (geti_eq h1 hj) ?_)
    obtain ⟨y, hy⟩ := Find_e ok ub (hu _ (gt_mem h1 hj))
    refine bnd hy ?_
    unfold chk
    by_cases q : fnd c (gt l i) = 0
    · rw [if_neg (by simp [q])]
      refine cf (show (fnd c (gt l i) != 0) = false by rw [q]; rfl) ?_
      rw [hm]
      by_cases q2 : gt l i ∈ s
      · rw [if_pos q2]
        exact ct (decide_eq_true q2) rfl
      · rw [if_neg q2]
        refine cf (decide_eq_false q2) ?_
        refine ih k (i + 1) _ _ (by omega) (by omega) (by omega) (by omega) fun x => ?_
        rw [mget_mput, hm]
        by_cases e : x = gt l i
        · simp [e]
        · simp [e]
    · rw [if_pos q]
      exact ct (bne_iff_ne.2 q) rfl
theorem rCheck_i (c : Conf) (l : List Int) (i : Int) (hi0 : 0 ≤ i) (hi : i < (l.length : Int)) (few : l.length ≤ 100) : ∀ (d n : Nat) (k : Int), d < n → 0 ≤ k → (i - k).toNat = d → k ≤ i →
    ((∃ j : Int, k ≤ j ∧ j < i ∧ gt l j = gt l i) → lodgerref10_Check_l1 n l i k c = some 8) ∧ ((¬ ∃ j : Int, k ≤ j ∧ j < i ∧ gt l j = gt l i) → lodgerref10_Check_l1 n l i k c = lodgerref10_Check_l0 (n - d - 1) l (i + 1) c) := by
  intro d
  induction d with
  | zero =>
    intro n k hn h1 h2 h3
    obtain ⟨m, rfl⟩ : ∃ m, n = m + 1 := ⟨n - 1, by omega⟩
    rw [su1_lodgerref10_Check]
    unfold lodgerref10_Check_s1
    rw [i64_in (i + 1) (by omega)]
    exact ⟨fun ⟨j, q1, q2, _⟩ => by omega, fun _ => cf (decide_eq_false (by omega)) rfl⟩
  | succ d ih =>
    intro n k hn h1 h2 h3
    obtain ⟨m, rfl⟩ : ∃ m, n = m + 1 := ⟨n - 1, by omega⟩
    obtain ⟨g1, g2⟩ := ih m (k + 1) (by omega) (by omega) (by omega) (by omega)
    rw [su1_lodgerref10_Check]
    unfold lodgerref10_Check_s1
    rw [i64_in (k + 1) (by omega)]
    have hk : k < (l.length : Int) := by clear g1 g2; omega
    have hki : k < i := by clear g1 g2; omega
    by_cases q : gt l k = gt l i
    · refine ⟨fun _ => ct (decide_eq_true hki) (bnd (geti_eq h1 hk) (bnd (geti_eq hi0 hi) (ct (beq_iff_eq.2 q) rfl))), fun h => ?_⟩
      exact absurd ⟨k, Int.le_refl _, hki, q⟩ h
    · refine ⟨fun h => ct (decide_eq_true hki) (bnd (geti_eq h1 hk) (bnd (geti_eq hi0 hi) (cf (beq_eq_false_iff_ne.2 q) (g1 ?_)))), fun h => ct (decide_eq_true hki) (bnd (geti_eq h1 hk) (bnd (geti_eq hi0 hi) (cf (beq_eq_false_iff_ne.2 q) ?_)))⟩
      · obtain ⟨j, q1, q2, q3⟩ := h
        by_cases e : j = k
        · rw [e] at q3; exact absurd q3 q
        · exact ⟨j, by clear g1 g2; omega, q2, q3⟩
      · have h' : ¬ ∃ j : Int, k + 1 ≤ j ∧ j < i ∧ gt l j = gt l i := fun ⟨j, q1, q2, q3⟩ => h ⟨j, Int.le_trans (Int.le_add_of_nonneg_right (by decide)) q1, q2, q3⟩
        rw [g2 h']
        congr 1
        clear g1 g2 h h'
        omega
theorem rCheck_l (c : Conf) (l : List Int) (ok : OKc c) (ub : U32 c.block.base) (hu : ∀ x, x ∈ l → U32 x) (few : l.length ≤ 100) : ∀ (d n : Nat) (i : Int) (s : List Int), d * 102 < n → 0 ≤ i → ((l.length : Int) - i).toNat = d → i ≤ l.length → (∀ x, x ∈ s ↔ ∃ j : Int, 0 ≤ j ∧ j < i ∧ gt l j = x) →
    lodgerref10_Check_l0 n l i c = some (chk c (l.drop i.toNat) s) := by
  intro d
  induction d with
  | zero =>
    intro n i s hn h1 h2 h3 hm
    obtain ⟨k, rfl⟩ : ∃ m, n = m + 1 := ⟨n - 1, by omega⟩
    rw [su0_lodgerref10_Check]
    unfold lodgerref10_Check_s0
    rw [List.drop_eq_nil_of_le (by omega)]
    exact cf (decide_eq_false (by omega)) rfl
  | succ d ih =>
    intro n i s hn h1 h2 h3 hm
    obtain ⟨k, rfl⟩ : ∃ m, n = m + 1 := ⟨n - 1, by omega⟩
    have hj : i < (l.length : Int) := by omega
    rw [su0_lodgerref10_Check]
    unfold lodgerref10_Check_s0
    rw [drop_cons h1 hj]
    refine ct (decide_eq_true hj) (bnd (geti_eq h1 hj) ?_)
    obtain ⟨y, hy⟩ := rFind_e ok ub (hu _ (gt_mem h1 hj))
    refine bnd hy ?_
    unfold chk
    obtain ⟨g1, g2⟩ := rCheck_i c l i h1 hj few i.toNat k 0 (by omega) (by omega) (by omega) (by omega)
    by_cases q : fnd c (gt l i) = 0
    · rw [if_neg (by simp [q])]
      refine cf (show (fnd c (gt l i) != 0) = false by rw [q]; rfl) ?_
      by_cases q2 : gt l i ∈ s
      · rw [if_pos q2]
        exact g1 ((hm _).1 q2)
      · rw [if_neg q2, g2 (fun h => q2 ((hm _).2 h))]
        clear g1 g2
        refine ih _ (i + 1) _ (by omega) (by omega) (by omega) (by omega) fun x => ?_
        rw [List.mem_cons, hm]
        constructor
        · rintro (e | ⟨j, q1, q3, q4⟩)
          · exact ⟨i, h1, by omega, e.symm⟩
          · exact ⟨j, q1, by omega, q4⟩
        · rintro ⟨j, q1, q3, q4⟩
          by_cases e : j = i
          · left; rw [← q4, e]
          · right; exact ⟨j, q1, by omega, q4⟩
    · rw [if_pos q]
      exact ct (bne_iff_ne.2 q) rfl
def one (a : Ask) : Prop := a.kind = 2 ∨ a.kind = 3 ∨ a.kind = 5
instance (a : Ask) : Decidable (one a) := by unfold one; infer_instance
/-- Which addresses a request names. -/
def nam (a : Ask) : List Int := if one a then [a.addr] else if a.kind = 4 then a.addrs else []
/-- What is wrong with a request. -/
def ck (c : Conf) (a : Ask) : Int := if a.kind < 1 ∨ 7 < a.kind then 1 else if a.kind = 4 ∧ a.addrs.length = 0 then 7 else if a.kind = 4 ∧ 64 < a.addrs.length then 1 else chk c (nam a) []
theorem rNames_eq {a : Ask} (few : a.addrs.length ≤ 100) : lodgerref10_Names a = some (nam a) := by
  have hmx : maxList = 137438953472 := rfl
  unfold lodgerref10_Names nam
  by_cases k2 : a.kind = 2
  · rw [if_pos (show one a from .inl k2)]; exact ct (beq_iff_eq.2 k2) rfl
  refine cf (beq_eq_false_iff_ne.2 k2) ?_
  by_cases k3 : a.kind = 3
  · rw [if_pos (show one a from .inr (.inl k3))]; exact ct (beq_iff_eq.2 k3) rfl
  refine cf (beq_eq_false_iff_ne.2 k3) ?_
  by_cases k5 : a.kind = 5
  · rw [if_pos (show one a from .inr (.inr k5))]; exact ct (beq_iff_eq.2 k5) rfl
  refine cf (beq_eq_false_iff_ne.2 k5) ?_
  rw [if_neg (show ¬ one a by unfold one; omega)]
  by_cases k4 : a.kind = 4
  · rw [if_pos k4]; exact ct (beq_iff_eq.2 k4) (ct (decide_eq_true (by omega)) rfl)
  · rw [if_neg k4]; exact cf (beq_eq_false_iff_ne.2 k4) rfl
theorem Names_eq {a : Ask} (few : a.addrs.length ≤ 100) : ask_Names a = some (nam a) := by
  have hmx : maxList = 137438953472 := rfl
  unfold ask_Names nam slices_Clone cloneF
  by_cases k4 : a.kind = 4
  · rw [if_neg (show ¬ one a by unfold one; omega), if_pos k4]
    refine ct (beq_iff_eq.2 k4) ?_
    rw [if_pos (by omega)]
    rfl
  refine cf (beq_eq_false_iff_ne.2 k4) ?_
  by_cases k0 : a.kind ≥ 0
  · refine ct (decide_eq_true k0) ?_
    by_cases k6 : a.kind < 6
    · refine ct (decide_eq_true k6) ?_
      by_cases e0 : a.kind = 0
      · rw [if_neg (show ¬ one a by unfold one; omega), if_neg k4]; exact ct (beq_iff_eq.2 e0) rfl
      refine cf (beq_eq_false_iff_ne.2 e0) ?_
      by_cases e1 : a.kind = 1
      · rw [if_neg (show ¬ one a by unfold one; omega), if_neg k4]; exact ct (beq_iff_eq.2 e1) rfl
      refine cf (beq_eq_false_iff_ne.2 e1) ?_
      by_cases e2 : a.kind = 2
      · rw [if_pos (show one a by unfold one; omega)]; exact ct (beq_iff_eq.2 e2) rfl
      refine cf (beq_eq_false_iff_ne.2 e2) ?_
      by_cases e3 : a.kind = 3
      · rw [if_pos (show one a by unfold one; omega)]; exact ct (beq_iff_eq.2 e3) rfl
      refine cf (beq_eq_false_iff_ne.2 e3) ?_
      refine cf (beq_eq_false_iff_ne.2 k4) ?_
      rw [if_pos (show one a by unfold one; omega)]
      exact ct (beq_iff_eq.2 (by omega)) rfl
    · rw [if_neg (show ¬ one a by unfold one; omega), if_neg k4]; exact cf (decide_eq_false k6) rfl
  · rw [if_neg (show ¬ one a by unfold one; omega), if_neg k4]; exact cf (decide_eq_false k0) rfl
theorem nam_u {a : Ask} (ha : WAsk a) : ∀ x, x ∈ nam a → U32 x := by
  unfold nam
  intro x hx
  split at hx
  · rw [List.mem_singleton] at hx; rw [hx]; exact ha.addr
  split at hx
  · exact ha.addrs.2 x hx
  · cases hx
theorem nam_len {a : Ask} (few : a.addrs.length ≤ 100) : (nam a).length ≤ 100 := by
  unfold nam
  split
  · simp
  split
  · exact few
  · simp
theorem ask_Check_eq {c : Conf} {a : Ask} (ok : OKc c) (ub : U32 c.block.base) (ha : WAsk a) (few : a.addrs.length ≤ 100) : ask_Check c a = some (ck c a) := by
  unfold ask_Check ask_Check_n ask_Check_e ck
  by_cases q1 : a.kind < 1
  · rw [if_pos (.inl q1)]; exact ct (decide_eq_true q1) rfl
  refine cf (decide_eq_false q1) ?_
  by_cases q2 : a.kind > 7
  · rw [if_pos (.inr q2)]; exact ct (decide_eq_true q2) rfl
  refine cf (decide_eq_false q2) ?_
  rw [if_neg (by omega)]
  have main : (ask_Names a).bind (fun r2 => ask_Check_l0 big r2 (List.length r2 : Int) 0 c ([] : List (Int × Bool))) = some (chk c (nam a) []) := by
    refine bnd (Names_eq few) ?_
    exact Check_l c (nam a) ok ub (nam_u ha) (by have := nam_len few; omega) (nam a).length big 0 [] [] (big_lt (by have := nam_len few; omega)) (by omega) (by omega) (by omega) (fun x => rfl)
  unfold ask_size
  by_cases k4 : a.kind = 4
  · have hne : (a.kind != 4) = false := by rw [k4]; rfl
    rw [hne]
    by_cases l0 : a.addrs.length = 0
    · rw [if_pos ⟨k4, l0⟩]
      refine bnd (a := 7) (cf rfl (ct (beq_iff_eq.2 (by omega)) rfl)) (ct rfl rfl)
    rw [if_neg (fun h => l0 h.2)]
    by_cases l1 : 64 < a.addrs.length
    · rw [if_pos ⟨k4, l1⟩]
      refine bnd (a := 1) (cf rfl (cf (beq_eq_false_iff_ne.2 (by omega)) (ct (decide_eq_true (by omega)) rfl))) (ct rfl rfl)
    · rw [if_neg (fun h => l1 h.2)]
      refine bnd (a := 0) (cf rfl (cf (beq_eq_false_iff_ne.2 (by omega)) (cf (decide_eq_false (by omega)) rfl))) (cf rfl main)
  · rw [if_neg (fun h => k4 h.1), if_neg (fun h => k4 h.1)]
    exact bnd (a := 0) (ct (bne_iff_ne.2 k4) rfl) (cf rfl main)
theorem rCheck_eq {c : Conf} {a : Ask} (ok : OKc c) (ub : U32 c.block.base) (ha : WAsk a) (few : a.addrs.length ≤ 100) : lodgerref10_Check c a = some (ck c a) := by
  unfold lodgerref10_Check lodgerref10_Check_n lodgerref10_Check_e ck
  by_cases q1 : a.kind < 1
  · rw [if_pos (.inl q1)]; exact ct (decide_eq_true q1) rfl
  refine cf (decide_eq_false q1) ?_
  by_cases q2 : a.kind > 7
  · rw [if_pos (.inr q2)]; exact ct (decide_eq_true q2) rfl
  refine cf (decide_eq_false q2) ?_
  rw [if_neg (by omega)]
  have main : (lodgerref10_Names a).bind (fun r2 => lodgerref10_Check_l0 big r2 0 c) = some (chk c (nam a) []) := by
    refine bnd (rNames_eq few) ?_
    have hl := nam_len few
    exact rCheck_l c (nam a) ok ub (nam_u ha) hl (nam a).length big 0 [] (big_lt (by omega)) (by omega) (by omega) (by omega) (fun x => ⟨fun h => absurd h List.not_mem_nil, fun ⟨j, q1, q3, _⟩ => by omega⟩)
  by_cases k4 : a.kind = 4
  · refine ct (beq_iff_eq.2 k4) ?_
    by_cases l0 : a.addrs.length = 0
    · rw [if_pos ⟨k4, l0⟩]; exact ct (beq_iff_eq.2 (by omega)) rfl
    rw [if_neg (fun h => l0 h.2)]
    refine cf (beq_eq_false_iff_ne.2 (by omega)) (ct (beq_iff_eq.2 k4) ?_)
    by_cases l1 : 64 < a.addrs.length
    · rw [if_pos ⟨k4, l1⟩]; exact ct (decide_eq_true (by omega)) rfl
    · rw [if_neg (fun h => l1 h.2)]
      exact cf (decide_eq_false (by omega)) main
  · rw [if_neg (fun h => k4 h.1), if_neg (fun h => k4 h.1)]
    exact cf (beq_eq_false_iff_ne.2 k4) (cf (beq_eq_false_iff_ne.2 k4) main)
end
end Go.Lv.Ld
