import Derived.Test.YtiajkejmabflaaaDoorLaH
namespace Go.Lv.Ld
set_option linter.all false
noncomputable section
open Go Go.Lv Go.IntWalk
def tt (l : List Call) (i : Int) : Int := match geti l i with | some x => x.to_ | none => 0
def ff (l : List Call) (i : Int) : Int := match geti l i with | some x => x.from_ | none => 0
theorem gC {l : List Call} {i : Int} (h0 : 0 ≤ i) (h : i < (l.length : Int)) : ∃ x, geti l i = some x ∧ x ∈ l ∧ tt l i = x.to_ ∧ ff l i = x.from_ := by
  have e : geti l i = some (l[i.toNat]'(by omega)) := by
    unfold geti
    rw [if_pos h0, List.getElem?_eq_getElem (show i.toNat < l.length by omega)]
  refine ⟨_, e, List.getElem_mem _, ?_, ?_⟩
  · unfold tt; rw [e]
  · unfold ff; rw [e]
/-- Calls that are small. -/
structure CK (x : Call) : Prop where
  ask : WAsk x.ask
  few : x.ask.addrs.length ≤ 100
  xa : U32 x.answer.addr
  x1 : x.answer.addrs.length ≤ 100000
  x2 : x.answer.errs.length ≤ 100000
/-- A replay. -/
def rp (c : Conf) (calls : List Call) : List Int → List Int → Option (List Int)
  | [], s => some s
  | n :: r, s => match geti calls n with
    | some x => if (lg c s x.ask x.answer).2 = true then rp c calls r (lg c s x.ask x.answer).1 else none
    | none => none
def InR (calls : List Call) (order : List Int) : Prop := ∀ n, n ∈ order → 0 ≤ n ∧ n < (calls.length : Int)
structure CF (c : Conf) (calls : List Call) : Prop where
  ok : OKc c
  ub : U32 c.block.base
  few : many c.block ≤ 256
  cs : ∀ x, x ∈ calls → CK x
theorem CF.lok {c : Conf} {calls : List Call} (h : CF c calls) {s : List Int} (hs : SOK c s) {x : Call} (hx : x ∈ calls) : LOK c s x.ask x.answer :=
  ⟨h.ok, h.ub, h.few, hs, (h.cs x hx).ask, (h.cs x hx).few, (h.cs x hx).xa, (h.cs x hx).x1, (h.cs x hx).x2⟩
/-- Whether one stands rightly behind another one. -/
def Bh (calls : List Call) (i k : Int) : Prop := i ≠ k ∧ ¬ (0 ≤ tt calls i ∧ tt calls i < ff calls k)
structure Wh (calls : List Call) (order : List Int) : Prop where
  inr : InR calls order
  beh : ∀ i : Int, 0 ≤ i → i < (order.length : Int) → ∀ k, 0 ≤ k → k < i → Bh calls (gt order i) (gt order k)
  all : ∀ j : Int, 0 ≤ j → j < (calls.length : Int) → 0 ≤ tt calls j → j ∈ order
theorem IF_l (calls : List Call) (l : List Int) (x : Int) (hx : 0 ≤ x ∧ x < (calls.length : Int)) (hr : InR calls l) (few : l.length ≤ 100000) : ∀ (d n : Nat) (j : Int), d < n → 0 ≤ j → ((l.length : Int) - j).toNat = d → j ≤ l.length →
    ∃ r, slices_IndexFunc_l0 n l l.length j calls x = some r ∧ (0 ≤ r ↔ ∃ k : Int, j ≤ k ∧ k < (l.length : Int) ∧ 0 ≤ tt calls x ∧ tt calls x < ff calls (gt l k)) := by
  intro d
  induction d with
  | zero =>
    intro n j hn h1 h2 h3
    obtain ⟨m, rfl⟩ : ∃ m, n = m + 1 := ⟨n - 1, by omega⟩
    rw [su0_slices_IndexFunc]
    unfold slices_IndexFunc_s0
    exact ⟨-1, cf (decide_eq_false (by omega)) rfl, fun h => by omega, fun ⟨k, a, b, _⟩ => by omega⟩
  | succ d ih =>
    intro n j hn h1 h2 h3
    obtain ⟨m, rfl⟩ : ∃ m, n = m + 1 := ⟨n - 1, by omega⟩
    have hj : j < (l.length : Int) := by omega
    obtain ⟨r0, r1⟩ := hr _ (gt_mem h1 hj)
    obtain ⟨y, ey, _, _, fy⟩ := gC r0 r1
    obtain ⟨z, ez, _, tz, _⟩ := gC hx.1 hx.2
    obtain ⟨r, e1, e2⟩ := ih m (j + 1) (by omega) (by omega) (by omega) (by omega)
    rw [su0_slices_IndexFunc]
    unfold slices_IndexFunc_s0
    rw [i64_in (j + 1) (by omega)]
    have ha : linz_ahead z y = some (decide (0 ≤ tt calls x ∧ tt calls x < ff calls (gt l j))) := by
      unfold linz_ahead linz_answered
      rw [tz, fy]
      by_cases q : z.to_ ≥ 0
      · refine bnd rfl (ct (decide_eq_true q) ?_)
        rw [decide_eq_decide.2 (show z.to_ < y.from_ ↔ (0 ≤ z.to_ ∧ z.to_ < y.from_) from ⟨fun e => ⟨q, e⟩, fun e => e.2⟩)]
      · refine bnd rfl (cf (decide_eq_false q) ?_)
        rw [decide_eq_false (fun e => q e.1)]
    by_cases q : 0 ≤ tt calls x ∧ tt calls x < ff calls (gt l j)
    · exact ⟨j, ct (decide_eq_true hj) (bnd (geti_eq h1 hj) (bnd ez (bnd ey (bnd ha (ct (decide_eq_true q) rfl))))), fun _ => ⟨j, Int.le_refl _, hj, q⟩, fun _ => h1⟩
    · refine ⟨r, ct (decide_eq_true hj) (bnd (geti_eq h1 hj) (bnd ez (bnd ey (bnd ha (cf (decide_eq_false q) e1))))), e2.trans ?_⟩
      constructor
      · rintro ⟨k, a, b, c⟩; exact ⟨k, by omega, b, c⟩
      · rintro ⟨k, a, b, c⟩
        by_cases e : k = j
        · rw [e] at c; exact absurd c q
        · exact ⟨k, by omega, b, c⟩
theorem W1_l (calls : List Call) (order : List Int) (m : List (Int × Bool)) (hm : ∀ x, mget x m = decide (x ∈ order)) (few : calls.length ≤ 100000) : ∀ (d n : Nat) (j : Int), d < n → 0 ≤ j → ((calls.length : Int) - j).toNat = d → j ≤ calls.length →
    ∃ b, linz_Whole_l1 n calls calls.length j m = some b ∧ (b = true ↔ ∀ k : Int, j ≤ k → k < (calls.length : Int) → 0 ≤ tt calls k → k ∈ order) := by
  intro d
  induction d with
  | zero =>
    intro n j hn h1 h2 h3
    obtain ⟨k, rfl⟩ : ∃ m, n = m + 1 := ⟨n - 1, by omega⟩
    rw [su1_linz_Whole]
    unfold linz_Whole_s1
    exact ⟨true, cf (decide_eq_false (by omega)) rfl, fun _ k a b => by omega, fun _ => rfl⟩
  | succ d ih =>
    intro n j hn h1 h2 h3
    obtain ⟨k, rfl⟩ : ∃ m, n = m + 1 := ⟨n - 1, by omega⟩
    have hj : j < (calls.length : Int) := by omega
    obtain ⟨x, e, _, tx, _⟩ := gC h1 hj
    obtain ⟨b, e1, e2⟩ := ih k (j + 1) (by omega) (by omega) (by omega) (by omega)
    rw [su1_linz_Whole]
    unfold linz_Whole_s1
    rw [i64_in (j + 1) (by omega)]
    have step : (0 ≤ tt calls j → j ∈ order) → ((∀ k : Int, j + 1 ≤ k → k < (calls.length : Int) → 0 ≤ tt calls k → k ∈ order) ↔ ∀ k : Int, j ≤ k → k < (calls.length : Int) → 0 ≤ tt calls k → k ∈ order) := fun hq =>
      ⟨fun h k a b c => by
        by_cases e : k = j
        · rw [e] at c ⊢; exact hq c
        · exact h k (by omega) b c, fun h k a b c => h k (by omega) b c⟩
    by_cases q : x.to_ ≥ 0
    · by_cases q2 : j ∈ order
      · refine ⟨b, ct (decide_eq_true hj) (bnd e (bnd rfl (ct (decide_eq_true q) (cf (by rw [hm, decide_eq_true q2]; rfl) e1)))), e2.trans (step fun _ => q2)⟩
      · refine ⟨false, ct (decide_eq_true hj) (bnd e (bnd rfl (ct (decide_eq_true q) (ct (by rw [hm, decide_eq_false q2]; rfl) rfl)))), fun h => (by cases h), fun h => absurd (h j (Int.le_refl _) hj (by rw [tx]; exact q)) q2⟩
    · refine ⟨b, ct (decide_eq_true hj) (bnd e (bnd rfl (cf (decide_eq_false q) e1))), e2.trans (step fun h => by rw [tx] at h; exact absurd h q)⟩
end
end Go.Lv.Ld
namespace Go.Lv.Ld
set_option linter.all false
noncomputable section
open Go Go.Lv Go.IntWalk
def Pre (calls : List Call) (order : List Int) (i : Int) : Prop := ∀ q : Int, 0 ≤ q → q < i → (0 ≤ gt order q ∧ gt order q < (calls.length : Int)) ∧ ∀ k, 0 ≤ k → k < q → Bh calls (gt order q) (gt order k)
theorem Pre.succ {calls : List Call} {order : List Int} {i : Int} (h : Pre calls order i) (h1 : 0 ≤ gt order i ∧ gt order i < (calls.length : Int)) (h2 : ∀ k, 0 ≤ k → k < i → Bh calls (gt order i) (gt order k)) : Pre calls order (i + 1) := by
  intro q q0 q1
  by_cases e : q = i
  · rw [e]; exact ⟨h1, h2⟩
  · exact h q q0 (by omega)
theorem Wh_pre {calls : List Call} {order : List Int} : Wh calls order ↔ Pre calls order order.length ∧ ∀ j : Int, 0 ≤ j → j < (calls.length : Int) → 0 ≤ tt calls j → j ∈ order := by
  constructor
  · rintro ⟨a, b, c⟩
    exact ⟨fun q q0 q1 => ⟨a _ (gt_mem q0 q1), b q q0 q1⟩, c⟩
  · rintro ⟨a, c⟩
    refine ⟨fun n hn => ?_, fun i i0 i1 => (a i i0 i1).2, c⟩
    obtain ⟨j, j0, j1, j2⟩ := mem_gt hn
    rw [← j2]; exact (a j j0 j1).1
theorem mem_take_gt {l : List Int} {i : Int} (h0 : 0 ≤ i) (h : i ≤ (l.length : Int)) (x : Int) : x ∈ l.take i.toNat ↔ ∃ k : Int, 0 ≤ k ∧ k < i ∧ gt l k = x := by
  constructor
  · intro hx
    obtain ⟨q, hq⟩ := List.getElem?_of_mem hx
    have hl := (List.getElem?_eq_some_iff.1 hq).1
    rw [List.length_take] at hl
    rw [List.getElem?_take, if_pos (by omega)] at hq
    have := get?_gt (l := l) (i := (q : Int)) (by omega) (by omega)
    rw [Int.toNat_natCast, hq] at this
    exact ⟨q, by omega, by omega, (Option.some.inj this).symm⟩
  · rintro ⟨k, k0, k1, rfl⟩
    have g := get?_gt (l := l) (i := k) k0 (by omega)
    have : (l.take i.toNat)[k.toNat]? = some (gt l k) := by rw [List.getElem?_take, if_pos (by omega)]; exact g
    exact List.mem_of_getElem? this
theorem gt_take {l : List Int} {i k : Int} (h0 : 0 ≤ k) (h : k < i) : gt (l.take i.toNat) k = gt l k := by
  unfold gt
  rw [List.getD_eq_getElem?_getD, List.getD_eq_getElem?_getD, List.getElem?_take, if_pos (by omega)]
theorem W0_l (calls : List Call) (order : List Int) (few : calls.length ≤ 100000) (fewo : order.length ≤ 100000) : ∀ (d n : Nat) (i : Int) (m : List (Int × Bool)), d + 200000 < n → 0 ≤ i → ((order.length : Int) - i).toNat = d → i ≤ order.length → Pre calls order i → (∀ x, mget x m = decide (x ∈ order.take i.toNat)) →
    ∃ b, linz_Whole_l0 n order order order.length i calls m = some b ∧ (b = true ↔ Wh calls order) := by
  intro d
  induction d with
  | zero =>
    intro n i m hn h1 h2 h3 hp hm
    obtain ⟨k, rfl⟩ : ∃ m, n = m + 1 := ⟨n - 1, by omega⟩
    have ei : i = (order.length : Int) := by omega
    subst ei
    rw [su0_linz_Whole]
    unfold linz_Whole_s0
    obtain ⟨b, e1, e2⟩ := W1_l calls order m (fun x => by rw [hm, Int.toNat_natCast, List.take_length]) few calls.length k 0 (by omega) (by omega) (by omega) (by omega)
    refine ⟨b, cf (decide_eq_false (by omega)) e1, e2.trans ?_⟩
    rw [Wh_pre]
    exact ⟨fun h => ⟨hp, h⟩, fun h => h.2⟩
  | succ d ih =>
    intro n i m hn h1 h2 h3 hp hm
    obtain ⟨k, rfl⟩ : ∃ m, n = m + 1 := ⟨n - 1, by omega⟩
    have hj : i < (order.length : Int) := by omega
    rw [su0_linz_Whole]
    unfold linz_Whole_s0
    rw [i64_in (i + 1) (by omega)]
    by_cases q1 : gt order i < 0
    · refine ⟨false, ct (decide_eq_true hj) (bnd (geti_eq h1 hj) (ct (decide_eq_true q1) rfl)), fun h => (by cases h), fun h => ?_⟩
      have := (h.inr _ (gt_mem h1 hj)).1; omega
    by_cases q2 : gt order i ≥ (calls.length : Int)
    · refine ⟨false, ct (decide_eq_true hj) (bnd (geti_eq h1 hj) (cf (decide_eq_false q1) (ct (decide_eq_true q2) rfl))), fun h => (by cases h), fun h => ?_⟩
      have := (h.inr _ (gt_mem h1 hj)).2; omega
    by_cases q3 : gt order i ∈ order.take i.toNat
    · refine ⟨false, ct (decide_eq_true hj) (bnd (geti_eq h1 hj) (cf (decide_eq_false q1) (cf (decide_eq_false q2) (ct ((hm _).trans (decide_eq_true q3)) rfl)))), fun h => (by cases h), fun h => ?_⟩
      obtain ⟨z, z0, z1, z2⟩ := (mem_take_gt h1 h3 _).1 q3
      exact absurd z2.symm (h.beh i h1 hj z z0 z1).1
    have hb : okBounds (order.length : Int) 0 i none = true := by unfold okBounds; rw [decide_eq_true ⟨Int.le_refl _, h1, h3⟩]; rfl
    have hl : ((order.take i.toNat).length : Int) = i := by rw [List.length_take]; omega
    have hrt : InR calls (order.take i.toNat) := fun x hx => by
      obtain ⟨z, z0, z1, z2⟩ := (mem_take_gt h1 h3 _).1 hx
      rw [← z2]; exact (hp z z0 z1).1
    obtain ⟨r, r1, r2⟩ := IF_l calls (order.take i.toNat) (gt order i) ⟨by omega, by omega⟩ hrt (by omega) (order.take i.toNat).length big 0 (big_lt (by omega)) (by omega) (by omega) (by omega)
    have r1' : slices_IndexFunc ((order.take i.toNat).drop (Int.toNat 0)) calls (gt order i) = some r := r1
    by_cases q4 : 0 ≤ r
    · refine ⟨false, ct (decide_eq_true hj) (bnd (geti_eq h1 hj) (cf (decide_eq_false q1) (cf (decide_eq_false q2) (cf ((hm _).trans (decide_eq_false q3)) (ct hb (bnd r1' (ct (decide_eq_true q4) rfl))))))), fun h => (by cases h), fun h => ?_⟩
      obtain ⟨z, z0, z1, z2⟩ := r2.1 q4
      rw [hl] at z1
      rw [gt_take z0 z1] at z2
      exact absurd z2 (h.beh i h1 hj z z0 z1).2
    · have hp' : Pre calls order (i + 1) := hp.succ ⟨by omega, by omega⟩ fun z z0 z1 => ⟨fun e => q3 ((mem_take_gt h1 h3 _).2 ⟨z, z0, z1, e.symm⟩), fun e => q4 (r2.2 ⟨z, z0, by omega, by rw [gt_take z0 z1]; exact e⟩)⟩
      obtain ⟨b, b1, b2⟩ := ih k (i + 1) (mput (gt order i) true m) (by omega) (by omega) (by omega) (by omega) hp' (fun x => by
        rw [mget_mput, hm, Bool.eq_iff_iff, Bool.or_eq_true, decide_eq_true_eq, decide_eq_true_eq, decide_eq_true_eq, mem_take_gt h1 h3, mem_take_gt (i := i + 1) (by omega) (by omega)]
        constructor
        · rintro (e | ⟨z, z0, z1, z2⟩)
          · exact ⟨i, h1, by omega, e.symm⟩
          · exact ⟨z, z0, by omega, z2⟩
        · rintro ⟨z, z0, z1, z2⟩
          by_cases e : z = i
          · left; rw [← z2, e]
          · right; exact ⟨z, z0, by omega, z2⟩)
      exact ⟨b, ct (decide_eq_true hj) (bnd (geti_eq h1 hj) (cf (decide_eq_false q1) (cf (decide_eq_false q2) (cf ((hm _).trans (decide_eq_false q3)) (ct hb (bnd r1' (cf (decide_eq_false q4) b1))))))), b2⟩
theorem Whole_eq {calls : List Call} {order : List Int} (few : calls.length ≤ 100000) (fewo : order.length ≤ 100000) : ∃ b, linz_Whole calls order = some b ∧ (b = true ↔ Wh calls order) :=
  W0_l calls order few fewo order.length big 0 [] (big_lt (by omega)) (by omega) (by omega) (by omega) (fun q a b => by omega) (fun x => by simp [mget])
end
end Go.Lv.Ld
namespace Go.Lv.Ld
set_option linter.all false
noncomputable section
open Go Go.Lv Go.IntWalk
/-- Calls that are few and small. -/
structure FewC (calls : List Call) (k : Int) : Prop where
  len : (calls.length : Int) ≤ k
  cs : ∀ x, x ∈ calls → x.ask.addrs.length ≤ 100 ∧ x.answer.addrs.length ≤ 300 ∧ x.answer.errs.length ≤ 300
theorem Few_l (calls : List Call) (k : Int) : ∀ (d n : Nat) (i : Int), d < n → 0 ≤ i → (100 - i).toNat = d → i ≤ 100 →
    ∃ b, lodgerref25_Few_l0 n calls k i = some b ∧ (b = true → (calls.length : Int) ≤ k ∧ ∀ j : Int, i ≤ j → j < (calls.length : Int) → j < 100 → ∀ x, geti calls j = some x → x.ask.addrs.length ≤ 100 ∧ x.answer.addrs.length ≤ 300 ∧ x.answer.errs.length ≤ 300) := by
  intro d
  induction d with
  | zero =>
    intro n i hn h1 h2 h3
    obtain ⟨m, rfl⟩ : ∃ m, n = m + 1 := ⟨n - 1, by omega⟩
    rw [su0_lodgerref25_Few]
    unfold lodgerref25_Few_s0
    refine ⟨decide ((calls.length : Int) ≤ k), ?_, fun h => ⟨of_decide_eq_true h, fun j a b c => by omega⟩⟩
    by_cases hj : i < (calls.length : Int)
    · exact ct (decide_eq_true hj) (cf (decide_eq_false (by omega)) rfl)
    · exact cf (decide_eq_false hj) rfl
  | succ d ih =>
    intro n i hn h1 h2 h3
    obtain ⟨m, rfl⟩ : ∃ m, n = m + 1 := ⟨n - 1, by omega⟩
    rw [su0_lodgerref25_Few]
    unfold lodgerref25_Few_s0
    by_cases hj : i < (calls.length : Int)
    rotate_left
    · exact ⟨decide ((calls.length : Int) ≤ k), cf (decide_eq_false hj) rfl, fun h => ⟨of_decide_eq_true h, fun j a b c => by omega⟩⟩
    obtain ⟨x, e, _, _, _⟩ := gC h1 hj
    rw [i64_in (i + 1) (by omega)]
    have go : ∀ {y : Option Bool} {P : Prop}, (∃ b, y = some b ∧ (b = true → P)) → ∃ b, (bif decide (i < (calls.length : Int)) then (bif decide (i < 100) then y else some (decide ((calls.length : Int) ≤ k))) else some (decide ((calls.length : Int) ≤ k))) = some b ∧ (b = true → P) := fun ⟨b, e, h⟩ => ⟨b, ct (decide_eq_true hj) (ct (decide_eq_true (by omega)) e), h⟩
    refine go ?_
    by_cases q1 : (x.ask.addrs.length : Int) > 100
    · exact ⟨false, bnd e (ct (decide_eq_true q1) rfl), fun h => by cases h⟩
    by_cases q2 : (x.answer.addrs.length : Int) > 300
    · exact ⟨false, bnd e (cf (decide_eq_false q1) (bnd e (ct (decide_eq_true q2) rfl))), fun h => by cases h⟩
    by_cases q3 : (x.answer.errs.length : Int) > 300
    · exact ⟨false, bnd e (cf (decide_eq_false q1) (bnd e (cf (decide_eq_false q2) (bnd e (ct (decide_eq_true q3) rfl))))), fun h => by cases h⟩
    obtain ⟨b, e1, hb⟩ := ih m (i + 1) (by omega) (by omega) (by omega) (by omega)
    refine ⟨b, bnd e (cf (decide_eq_false q1) (bnd e (cf (decide_eq_false q2) (bnd e (cf (decide_eq_false q3) e1))))), fun h => ⟨(hb h).1, fun j a b c y ey => ?_⟩⟩
    by_cases ej : j = i
    · rw [ej, e] at ey
      cases ey
      omega
    · exact (hb h).2 j (by omega) b c y ey
theorem Few_eq (calls : List Call) {k : Int} (hk : k ≤ 100) : ∃ b, lodgerref25_Few calls k = some b ∧ (b = true → FewC calls k) := by
  obtain ⟨b, e, hb⟩ := Few_l calls k 100 big 0 (big_lt (by omega)) (by omega) (by omega) (by omega)
  refine ⟨b, e, fun h => ⟨(hb h).1, fun x hx => ?_⟩⟩
  obtain ⟨i, hi⟩ := List.getElem?_of_mem hx
  have hl := (List.getElem?_eq_some_iff.1 hi).1
  have := (hb h).1
  refine (hb h).2 i (by omega) (by omega) (by omega) x ?_
  unfold geti
  rw [if_pos (by omega), Int.toNat_natCast]; exact hi
theorem sMay_l (c : Conf) (s : List Int) (ok : OKc c) (few : s.length ≤ 300) : ∀ (d n : Nat) (i : Int), d < n → 0 ≤ i → ((s.length : Int) - i).toNat = d → i ≤ s.length →
    ∃ b, lodgerref09_May_l0 n s i c = some b ∧ (b = true → ∀ j : Int, i ≤ j → j < (s.length : Int) → 0 ≤ gt s j ∧ gt s j < many c.block ∧ (0 < j → gt s (j - 1) < gt s j)) := by
  intro d
  induction d with
  | zero =>
    intro n i hn h1 h2 h3
    obtain ⟨m, rfl⟩ : ∃ m, n = m + 1 := ⟨n - 1, by omega⟩
    rw [su0_lodgerref09_May]
    unfold lodgerref09_May_s0
    exact ⟨true, cf (decide_eq_false (by omega)) rfl, fun _ j q1 q2 => by omega⟩
  | succ d ih =>
    intro n i hn h1 h2 h3
    obtain ⟨m, rfl⟩ : ∃ m, n = m + 1 := ⟨n - 1, by omega⟩
    have hj : i < (s.length : Int) := by omega
    have hg := geti_eq h1 hj
    rw [su0_lodgerref09_May]
    unfold lodgerref09_May_s0
    rw [i64_in (i + 1) (by omega), i64_in (i - 1) (by omega)]
    by_cases q1 : gt s i < 0
    · exact ⟨false, ct (decide_eq_true hj) (bnd hg (ct (decide_eq_true q1) rfl)), fun h => by cases h⟩
    by_cases q2 : gt s i ≥ many c.block
    · exact ⟨false, ct (decide_eq_true hj) (bnd hg (cf (decide_eq_false q1) (bnd hg (bnd (rMany_eq ok.blk) (ct (decide_eq_true q2) rfl))))), fun h => by cases h⟩
    cases q3 : heldB c (gt s i) with
    | true => exact ⟨false, ct (decide_eq_true hj) (bnd hg (cf (decide_eq_false q1) (bnd hg (bnd (rMany_eq ok.blk) (cf (decide_eq_false q2) (bnd hg (bnd (rHeld_eq ok.few _) (ct q3 rfl)))))))), fun h => by cases h⟩
    | false =>
      obtain ⟨b, e1, hb⟩ := ih m (i + 1) (by omega) (by omega) (by omega) (by omega)
      by_cases q4 : i > 0
      · have hg' := geti_eq (l := s) (i := i - 1) (by omega) (by omega)
        by_cases q5 : gt s (i - 1) ≥ gt s i
        · exact ⟨false, ct (decide_eq_true hj) (bnd hg (cf (decide_eq_false q1) (bnd hg (bnd (rMany_eq ok.blk) (cf (decide_eq_false q2) (bnd hg (bnd (rHeld_eq ok.few _) (cf q3 (ct (decide_eq_true q4) (bnd hg' (bnd hg (ct (decide_eq_true q5) rfl)))))))))))), fun h => by cases h⟩
        · refine ⟨b, ct (decide_eq_true hj) (bnd hg (cf (decide_eq_false q1) (bnd hg (bnd (rMany_eq ok.blk) (cf (decide_eq_false q2) (bnd hg (bnd (rHeld_eq ok.few _) (cf q3 (ct (decide_eq_true q4) (bnd hg' (bnd hg (cf (decide_eq_false q5) e1)))))))))))), fun h j a b => ?_⟩
          by_cases ej : j = i
          · subst ej; exact ⟨by omega, by omega, fun _ => by omega⟩
          · exact hb h j (by omega) b
      · refine ⟨b, ct (decide_eq_true hj) (bnd hg (cf (decide_eq_false q1) (bnd hg (bnd (rMany_eq ok.blk) (cf (decide_eq_false q2) (bnd hg (bnd (rHeld_eq ok.few _) (cf q3 (cf (decide_eq_false q4) e1))))))))), fun h j a b => ?_⟩
        by_cases ej : j = i
        · subst ej; exact ⟨by omega, by omega, fun _ => by omega⟩
        · exact hb h j (by omega) b
theorem adj_srt {s : List Int} (h : ∀ j : Int, 0 < j → j < (s.length : Int) → gt s (j - 1) < gt s j) : Srt s := by
  have : ∀ (d : Nat) (i j : Int), 0 ≤ i → j - i = d + 1 → j < (s.length : Int) → gt s i < gt s j := by
    intro d
    induction d with
    | zero =>
      intro i j h0 h1 h2
      have := h j (by omega) h2
      rw [show i = j - 1 by omega]; exact this
    | succ d ih =>
      intro i j h0 h1 h2
      exact Int.lt_trans (ih i (j - 1) h0 (by omega) (by omega)) (h j (by omega) h2)
  intro i j h0 h1 h2
  exact this (j - i - 1).toNat i j h0 (by omega) h2
theorem Srt.srp {s : List Int} (h : Srt s) : Srp s := by
  refine List.pairwise_iff_getElem.2 fun i j hi hj hij => ?_
  have := h i j (by omega) (by omega) (by omega)
  have e1 := get?_gt (l := s) (i := i) (by omega) (by omega)
  have e2 := get?_gt (l := s) (i := j) (by omega) (by omega)
  rw [Int.toNat_natCast, List.getElem?_eq_getElem hi] at e1
  rw [Int.toNat_natCast, List.getElem?_eq_getElem hj] at e2
  rw [Option.some.inj e1, Option.some.inj e2]; exact this
theorem Fits11_eq {c : Conf} (hc : WConf c) (s : List Int) : ∃ b, lodgerref11_Fits c s = some b ∧ (b = true → OKc c ∧ many c.block ≤ 256 ∧ SOK c s) := by
  obtain ⟨r, e, hr⟩ := rMay_eq hc
  unfold lodgerref11_Fits
  cases r with
  | false => exact ⟨false, bnd e (cf rfl rfl), fun h => by cases h⟩
  | true =>
    have ok := hr rfl
    by_cases q1 : many c.block ≤ 256
    rotate_left
    · exact ⟨false, bnd e (ct rfl (bnd (rMany_eq ok.blk) (cf (decide_eq_false q1) rfl))), fun h => by cases h⟩
    by_cases q2 : (s.length : Int) ≤ 300
    rotate_left
    · exact ⟨false, bnd e (ct rfl (bnd (rMany_eq ok.blk) (ct (decide_eq_true q1) (cf (decide_eq_false q2) rfl)))), fun h => by cases h⟩
    obtain ⟨b, e1, hb⟩ := sMay_l c s ok (by omega) s.length big 0 (big_lt (by omega)) (by omega) (by omega) (by omega)
    have e1' : lodgerref09_May c s = some b := e1
    refine ⟨b, bnd e (ct rfl (bnd (rMany_eq ok.blk) (ct (decide_eq_true q1) (ct (decide_eq_true q2) (bnd e1' rfl))))), fun h => ⟨ok, q1, ?_, fun x hx => ?_⟩⟩
    · exact (adj_srt fun j a b => (hb h j (by omega) b).2.2 a).srp
    · obtain ⟨j, j0, j1, j2⟩ := mem_gt hx
      have := hb h j j0 j1
      rw [← j2]; exact ⟨this.1, this.2.1⟩
theorem gt_app_l {l : List Int} (r : List Int) {k : Int} (h0 : 0 ≤ k) (h : k < (l.length : Int)) : gt (l ++ r) k = gt l k := by
  unfold gt; rw [List.getD_eq_getElem?_getD, List.getD_eq_getElem?_getD, List.getElem?_append_left (by omega)]
end
end Go.Lv.Ld
namespace Go.Lv.Ld
set_option linter.all false
noncomputable section
open Go Go.Lv Go.IntWalk
def Ans (calls : List Call) (t : List Int) : Prop := ∀ n, n ∈ t → 0 ≤ n ∧ n < (calls.length : Int) ∧ 0 ≤ tt calls n
/-- How many answered calls aren't there yet. -/
def left (calls : List Call) (order : List Int) : Nat → Int → Nat
  | 0, _ => 0
  | d + 1, i => (if 0 ≤ tt calls i ∧ i ∉ order then 1 else 0) + left calls order d (i + 1)
theorem left_same {calls : List Call} {order : List Int} {j : Int} : ∀ (d : Nat) (i : Int), j < i → left calls (order ++ [j]) d i = left calls order d i
  | 0, _, _ => rfl
  | d + 1, i, h => by
    have e : (0 ≤ tt calls i ∧ i ∉ order ++ [j]) ↔ (0 ≤ tt calls i ∧ i ∉ order) := by
      rw [List.mem_append, List.mem_singleton]
      exact ⟨fun h => ⟨h.1, fun z => h.2 (.inl z)⟩, fun h' => ⟨h'.1, fun z => z.elim h'.2 (fun z => by omega)⟩⟩
    unfold left
    rw [left_same d (i + 1) (by omega)]
    by_cases q : 0 ≤ tt calls i ∧ i ∉ order
    · rw [if_pos q, if_pos (e.2 q)]
    · rw [if_neg q, if_neg (fun z => q (e.1 z))]
theorem left_app {calls : List Call} {order : List Int} {j : Int} (ha : 0 ≤ tt calls j) (hn : j ∉ order) : ∀ (d : Nat) (i : Int), i ≤ j → j < i + d → left calls (order ++ [j]) d i + 1 = left calls order d i
  | 0, i, h, h' => by omega
  | d + 1, i, h, h' => by
    unfold left
    by_cases e : i = j
    · subst e
      rw [left_same d (i + 1) (by omega), if_pos (show 0 ≤ tt calls i ∧ i ∉ order from ⟨ha, hn⟩), if_neg (show ¬ (0 ≤ tt calls i ∧ i ∉ order ++ [i]) from fun z => z.2 (by simp))]
      omega
    · have ih := left_app ha hn d (i + 1) (by omega) (by omega)
      have e : (0 ≤ tt calls i ∧ i ∉ order ++ [j]) ↔ (0 ≤ tt calls i ∧ i ∉ order) := by
        rw [List.mem_append, List.mem_singleton]
        exact ⟨fun h => ⟨h.1, fun z => h.2 (.inl z)⟩, fun h' => ⟨h'.1, fun z => z.elim h'.2 e⟩⟩
      by_cases q : 0 ≤ tt calls i ∧ i ∉ order
      · rw [if_pos q, if_pos (e.2 q)]; omega
      · rw [if_neg q, if_neg (fun z => q (e.1 z))]; omega
theorem left_le {calls : List Call} {order : List Int} : ∀ (d : Nat) (i : Int), left calls order d i ≤ d
  | 0, _ => Nat.le_refl _
  | d + 1, i => by
    have := left_le (calls := calls) (order := order) d (i + 1)
    unfold left
    split <;> omega
theorem gt_app_m (l : List Int) (x : Int) (t : List Int) : gt (l ++ x :: t) l.length = x := by
  unfold gt; rw [List.getD_eq_getElem?_getD, Int.toNat_natCast, List.getElem?_append_right (Nat.le_refl _), Nat.sub_self]; rfl
theorem Wh.new {calls : List Call} {order t : List Int} {i : Int} (w : Wh calls (order ++ i :: t)) : i ∉ order := fun h => by
  obtain ⟨k, k0, k1, k2⟩ := mem_gt h
  have := (w.beh order.length (by omega) (by simp only [List.length_append, List.length_cons]; omega) k k0 k1).1
  rw [gt_app_m, gt_app_l _ k0 k1] at this
  exact this k2.symm
theorem Wh.late {calls : List Call} {order t : List Int} {i m : Int} (w : Wh calls (order ++ i :: t)) (m0 : 0 ≤ m) (m1 : m < (calls.length : Int)) (hi : m ≠ i) (ho : m ∉ order) (ht : 0 ≤ tt calls m) : ¬ tt calls m < ff calls i := fun hf => by
  have hm := w.all m m0 m1 ht
  rcases List.mem_append.1 hm with h | h
  · exact ho h
  rcases List.mem_cons.1 h with h | h
  · exact hi h
  obtain ⟨q, hq⟩ := List.getElem?_of_mem h
  have hl := (List.getElem?_eq_some_iff.1 hq).1
  have g : gt (order ++ i :: t) ((order.length : Int) + 1 + q) = m := by
    have e : ((order.length : Int) + 1 + q).toNat = order.length + (q + 1) := by omega
    unfold gt
    rw [List.getD_eq_getElem?_getD, e, List.getElem?_append_right (by omega), show order.length + (q + 1) - order.length = q + 1 by omega, List.getElem?_cons_succ, hq]; rfl
  have := (w.beh ((order.length : Int) + 1 + q) (by omega) (by simp only [List.length_append, List.length_cons]; omega) order.length (by omega) (by omega)).2
  rw [g, gt_app_m] at this
  exact this ⟨ht, hf⟩
theorem Contains_eq {l : List Int} (few : l.length ≤ 100000) (x : Int) : slices_Contains l x = some (decide (x ∈ l)) := by
  obtain ⟨r, e, h⟩ := Index_l l x few l.length big 0 (big_lt (by omega)) (by omega) (by omega) (by omega)
  have e' : slices_Index l x = some r := e
  unfold slices_Contains
  refine bnd e' ?_
  rw [h]; rfl
def Ext (c : Conf) (calls : List Call) (s order : List Int) : Prop := ∃ t, Ans calls t ∧ Wh calls (order ++ t) ∧ (rp c calls (order ++ t) s).isSome = true
end
end Go.Lv.Ld
namespace Go.Lv.Ld
set_option linter.all false
noncomputable section
open Go Go.Lv Go.IntWalk
theorem Concat_two {a : List Int} {x : Int} (few : a.length ≤ 100000) : slices_Concat [a, [x]] = some (a ++ [x]) := by
  have hmx : maxList = 137438953472 := rfl
  have go : ∀ n, 10 < n → slices_Concat_n n [a, [x]] = some (a ++ [x]) := by
    intro n hn
    obtain ⟨m, rfl⟩ : ∃ m, n = m + 6 := ⟨n - 6, by omega⟩
    unfold slices_Concat_n slices_Concat_e
    have s0 : ∀ k p i, slices_Concat_l0 (k + 1) [a, [x]] p [a, [x]] 2 i = slices_Concat_s0 (slices_Concat_l0 k) (slices_Concat_l1 k) [a, [x]] p [a, [x]] 2 i := fun k p i => by rw [su0_slices_Concat]
    have s1 : ∀ k i acc, slices_Concat_l1 (k + 1) [a, [x]] 2 i acc = slices_Concat_s1 (slices_Concat_l0 k) (slices_Concat_l1 k) [a, [x]] 2 i acc := fun k i acc => by rw [su1_slices_Concat]
    refine (s0 (m + 5) 0 0).trans ?_
    unfold slices_Concat_s0
    refine ct rfl (bnd (a := a) rfl ?_)
    rw [i64_in (0 + (a.length : Int)) (by omega), i64_in (0 + 1) (by omega)]
    refine cf (decide_eq_false (by omega)) ((s0 (m + 4) _ _).trans ?_)
    unfold slices_Concat_s0
    refine ct rfl (bnd (a := [x]) rfl ?_)
    rw [i64_in (0 + (a.length : Int) + (([x] : List Int).length : Int)) (by simp only [List.length_singleton]; omega), i64_in (0 + 1 + 1) (by omega)]
    refine cf (decide_eq_false (by omega)) ((s0 (m + 3) _ _).trans ?_)
    unfold slices_Concat_s0
    refine cf rfl (ct ?_ ((s1 (m + 2) 0 []).trans ?_))
    · unfold okLen; exact decide_eq_true (by simp only [List.length_singleton]; omega)
    unfold slices_Concat_s1
    refine ct rfl (bnd (a := a) rfl (ct (decide_eq_true (by simp only [List.length_nil]; omega)) ?_))
    rw [i64_in (0 + 1) (by omega)]
    refine (s1 (m + 1) _ _).trans ?_
    unfold slices_Concat_s1
    refine ct rfl (bnd (a := [x]) rfl (ct (decide_eq_true (by simp only [List.nil_append, List.length_singleton]; omega)) ?_))
    rw [i64_in (0 + 1 + 1) (by omega)]
    refine (s1 m _ _).trans ?_
    unfold slices_Concat_s1
    exact cf rfl rfl
  exact go big (by unfold big; omega)
theorem ahead_eq {x y : Call} {calls : List Call} {i j : Int} (tx : tt calls i = x.to_) (fy : ff calls j = y.from_) : linz_ahead x y = some (decide (0 ≤ tt calls i ∧ tt calls i < ff calls j)) := by
  unfold linz_ahead linz_answered
  rw [tx, fy]
  by_cases q : x.to_ ≥ 0
  · refine bnd rfl (ct (decide_eq_true q) ?_)
    rw [decide_eq_decide.2 (show x.to_ < y.from_ ↔ (0 ≤ x.to_ ∧ x.to_ < y.from_) from ⟨fun e => ⟨q, e⟩, fun e => e.2⟩)]
  · refine bnd rfl (cf (decide_eq_false q) ?_)
    rw [decide_eq_false (fun e => q e.1)]
def lateF (calls : List Call) (order : List Int) (n : Int) : Nat → Int → Bool → Bool
  | 0, _, b => b
  | d + 1, k, b => lateF calls order n d (k + 1) (b || (decide (k ≠ n) && (decide (0 ≤ tt calls k ∧ tt calls k < ff calls n) && !decide (k ∈ order))))
theorem lateF_iff {calls : List Call} {order : List Int} {n : Int} : ∀ (d : Nat) (k : Int) (b : Bool), lateF calls order n d k b = true ↔ b = true ∨ ∃ m : Int, k ≤ m ∧ m < k + d ∧ m ≠ n ∧ (0 ≤ tt calls m ∧ tt calls m < ff calls n) ∧ m ∉ order
  | 0, k, b => ⟨fun h => .inl h, fun h => h.elim id fun ⟨m, a, b, _⟩ => by omega⟩
  | d + 1, k, b => by
    unfold lateF
    rw [lateF_iff d (k + 1), Bool.or_eq_true, Bool.and_eq_true, Bool.and_eq_true, decide_eq_true_eq, decide_eq_true_eq, Bool.not_eq_true', decide_eq_false_iff_not]
    constructor
    · rintro ((h | h) | ⟨m, a, b, r⟩)
      · exact .inl h
      · exact .inr ⟨k, Int.le_refl _, by omega, h.1, h.2.1, h.2.2⟩
      · exact .inr ⟨m, by omega, by omega, r⟩
    · rintro (h | ⟨m, a, b, r⟩)
      · exact .inl (.inl h)
      · by_cases e : m = k
        · rw [e] at r; exact .inl (.inr ⟨r.1, r.2.1, r.2.2⟩)
        · exact .inr ⟨m, by omega, by omega, r⟩
abbrev GF := List Int → List Int → List Call → Conf → Option (List Int × Bool)
/-- What is done with a call that isn't late. -/
def tl (g : GF) (n : Nat) (c : Conf) (now : List Int) (calls : List Call) (order : List Int) (i : Int) (x : Call) (late : Bool) : Option (List Int × Bool) :=
  bif late then linz_Find_1_l0 g n now order calls calls.length (i + 1) calls c else (spec_Legal c now x.ask x.answer).bind fun r8 => bif (not r8.2) then linz_Find_1_l0 g n now order calls calls.length (i + 1) calls c else (slices_Concat ([order, ([i] : List Int)] : List (List Int))).bind fun r9 => (g r8.1 r9 calls c).bind fun r10 => bif r10.2 then some (r10.1, true) else linz_Find_1_l0 g n now order calls calls.length (i + 1) calls c
theorem Find1_l (g : GF) (c : Conf) (now : List Int) (calls : List Call) (order : List Int) (i : Int) (x : Call) (h0 : 0 ≤ i) (hi : i < (calls.length : Int)) (fx : ff calls i = x.from_) (fewc : calls.length ≤ 100) (fewo : order.length ≤ 100) : ∀ (d n : Nat) (k : Int) (late : Bool), d < n → 0 ≤ k → ((calls.length : Int) - k).toNat = d → k ≤ calls.length →
    linz_Find_1_l1 g n now order i late calls calls.length i calls calls.length k calls c x = tl g (n - d - 1) c now calls order i x (lateF calls order i d k late) := by
  intro d
  induction d with
  | zero =>
    intro n k late hn h1 h2 h3
    obtain ⟨m, rfl⟩ : ∃ m, n = m + 1 := ⟨n - 1, by omega⟩
    rw [su1_linz_Find_1]
    unfold linz_Find_1_s1
    rw [i64_in (i + 1) (by omega)]
    exact cf (decide_eq_false (by omega)) rfl
  | succ d ih =>
    intro n k late hn h1 h2 h3
    obtain ⟨m, rfl⟩ : ∃ m, n = m + 1 := ⟨n - 1, by omega⟩
    have hk : k < (calls.length : Int) := by omega
    obtain ⟨y, ey, _, ty, _⟩ := gC h1 hk
    have ih := fun late => ih m (k + 1) late (by omega) (by omega) (by omega) (by omega)
    rw [su1_linz_Find_1]
    unfold linz_Find_1_s1 lateF
    rw [i64_in (k + 1) (by omega), show m + 1 - (d + 1) - 1 = m - d - 1 by omega]
    refine ct (decide_eq_true hk) (bnd ey ?_)
    cases late with
    | true => exact ct rfl ((ih true).trans (by rw [Bool.true_or]))
    | false =>
      rw [Bool.false_or]
      refine cf rfl ?_
      by_cases e : k = i
      · refine cf (by rw [e]; simp) ((ih false).trans ?_)
        rw [decide_eq_false (fun z => z e), Bool.false_and]
      · refine ct (bne_iff_ne.2 e) (bnd (ahead_eq ty fx) ?_)
        rw [decide_eq_true e, Bool.true_and]
        by_cases q : 0 ≤ tt calls k ∧ tt calls k < ff calls i
        · refine ct (decide_eq_true q) (bnd (Contains_eq (by omega) _) ((ih _).trans ?_))
          rw [decide_eq_true q, Bool.true_and]
        · refine cf (decide_eq_false q) ((ih _).trans ?_)
          rw [decide_eq_false q, Bool.false_and]
/-- What is found. -/
structure FR (c : Conf) (calls : List Call) (now order : List Int) (M : Nat) (P : List Int → Prop) (r : List Int × Bool) : Prop where
  no : r.2 = false → r.1 = []
  yes : r.2 = true → r.1.length ≤ M ∧ ∃ t, r.1 = order ++ t ∧ Ans calls t ∧ Wh calls r.1 ∧ (rp c calls t now).isSome = true
  all : ∀ t, P t → Ans calls t → Wh calls (order ++ t) → (rp c calls t now).isSome = true → r.2 = true
theorem Find0_l (g : GF) {c : Conf} {now : List Int} {calls : List Call} {order : List Int} (M : Nat) (h : CF c calls) (hs : SOK c now) (fewc : calls.length ≤ 100) (fewo : order.length ≤ 100)
    (hg : ∀ j : Int, 0 ≤ j → j < (calls.length : Int) → 0 ≤ tt calls j → j ∉ order → ∀ nx, SOK c nx → ∃ r, g nx (order ++ [j]) calls c = some r ∧ FR c calls nx (order ++ [j]) M (fun _ => True) r) : ∀ (d n : Nat) (i : Int), d * 103 < n → 0 ≤ i → ((calls.length : Int) - i).toNat = d → i ≤ calls.length →
    ∃ r, linz_Find_1_l0 g n now order calls calls.length i calls c = some r ∧ FR c calls now order M (fun t => ∃ j u, t = j :: u ∧ i ≤ j) r := by
  intro d
  induction d with
  | zero =>
    intro n i hn h1 h2 h3
    obtain ⟨m, rfl⟩ : ∃ m, n = m + 1 := ⟨n - 1, by omega⟩
    rw [su0_linz_Find_1]
    unfold linz_Find_1_s0
    exact ⟨([], false), cf (decide_eq_false (by omega)) rfl, fun _ => rfl, fun h => (by cases h), fun t ⟨j, u, e, hj⟩ ha _ _ => by
      subst e
      have := ha j List.mem_cons_self
      omega⟩
  | succ d ih =>
    intro n i hn h1 h2 h3
    obtain ⟨m, rfl⟩ : ∃ m, n = m + 1 := ⟨n - 1, by omega⟩
    have hj : i < (calls.length : Int) := by omega
    obtain ⟨x, ex, hx, tx, fx⟩ := gC h1 hj
    obtain ⟨r, e1, hr⟩ := ih (m - calls.length - 1) (i + 1) (by omega) (by omega) (by omega) (by omega)
    have l1 := fun late => Find1_l g c now calls order i x h1 hj fx fewc fewo calls.length m 0 late (by omega) (by omega) (by omega) (by omega)
    have st : linz_Find_1_l0 g (m + 1) now order calls calls.length i calls c = tl g (m - calls.length - 1) c now calls order i x (lateF calls order i calls.length 0 (!decide (x.to_ ≥ 0) || decide (i ∈ order))) := by
      rw [su0_linz_Find_1]
      unfold linz_Find_1_s0
      refine ct (decide_eq_true hj) (bnd ex (bnd (a := decide (x.to_ ≥ 0)) rfl ?_))
      by_cases q : x.to_ ≥ 0
      · rw [decide_eq_true q]
        refine cf rfl (bnd (Contains_eq (by omega) _) ((l1 _).trans ?_))
        rfl
      · rw [decide_eq_false q]
        exact ct rfl ((l1 _).trans rfl)
    rw [st]
    -- going on with the next one
    have nx : (∀ t, Ans calls (i :: t) → Wh calls (order ++ i :: t) → (rp c calls (i :: t) now).isSome = true → False) → FR c calls now order M (fun t => ∃ j u, t = j :: u ∧ i ≤ j) r := fun hq => ⟨hr.no, hr.yes, fun t ⟨j, u, e, hj⟩ ha hw hp => by
      subst e
      by_cases z : j = i
      · subst z; exact (hq u ha hw hp).elim
      · exact hr.all _ ⟨j, u, rfl, by omega⟩ ha hw hp⟩
    have hlf := lateF_iff (calls := calls) (order := order) (n := i) calls.length 0 (!decide (x.to_ ≥ 0) || decide (i ∈ order))
    unfold tl
    cases hL : lateF calls order i calls.length 0 (!decide (x.to_ ≥ 0) || decide (i ∈ order)) with
    | true =>
      refine ⟨r, ct rfl e1, nx fun t ha hw hp => ?_⟩
      rcases hlf.1 hL with q | ⟨q, q0, q1, q2, q3, q4⟩
      · rw [Bool.or_eq_true, Bool.not_eq_true', decide_eq_false_iff_not, decide_eq_true_eq] at q
        rcases q with q | q
        · have := (ha i List.mem_cons_self).2.2
          rw [tx] at this; exact q this
        · exact hw.new q
      · exact hw.late q0 (by omega) q2 q4 q3.1 q3.2
    | false =>
      have hn : ¬ _ := fun z => by rw [hlf.2 z] at hL; cases hL
      have q1 : 0 ≤ tt calls i := by
        by_cases z : x.to_ ≥ 0
        · rw [tx]; exact z
        · exact absurd (.inl (by rw [decide_eq_false z]; rfl)) hn
      have q2 : i ∉ order := fun z => hn (.inl (by rw [decide_eq_true z, Bool.or_true]))
      have hlg := h.lok hs hx
      have rpc : ∀ t, rp c calls (i :: t) now = if (lg c now x.ask x.answer).2 = true then rp c calls t (lg c now x.ask x.answer).1 else none := fun t => by
        rw [rp, ex]
      cases hb : (lg c now x.ask x.answer).2 with
      | false =>
        refine ⟨r, cf rfl (bnd (Legal_eq hlg) (ct (by rw [hb]; rfl) e1)), nx fun t ha hw hp => ?_⟩
        rw [rpc, hb, if_neg Bool.false_ne_true] at hp
        cases hp
      | true =>
        obtain ⟨r2, e2, hr2⟩ := hg i h1 hj q1 q2 _ (lg_ok hlg)
        have rpc' : ∀ t, rp c calls (i :: t) now = rp c calls t (lg c now x.ask x.answer).1 := fun t => by rw [rpc, hb, if_pos rfl]
        cases hb2 : r2.2 with
        | true =>
          refine ⟨(r2.1, true), cf rfl (bnd (Legal_eq hlg) (cf (by rw [hb]; rfl) (bnd (Concat_two (by omega)) (bnd e2 (ct hb2 rfl))))), fun h => (by cases h), fun _ => ?_, fun _ _ _ _ _ => rfl⟩
          obtain ⟨a, t, b, at', d, f⟩ := hr2.yes hb2
          exact ⟨a, i :: t, by rw [b, List.append_assoc]; rfl, fun n hn => (List.mem_cons.1 hn).elim (fun e => by rw [e]; exact ⟨h1, hj, q1⟩) (at' n), d, by rw [rpc']; exact f⟩
        | false =>
          refine ⟨r, cf rfl (bnd (Legal_eq hlg) (cf (by rw [hb]; rfl) (bnd (Concat_two (by omega)) (bnd e2 (cf hb2 e1))))), nx fun t ha hw hp => ?_⟩
          have := hr2.all t trivial (fun n hn => ha n (List.mem_cons_of_mem _ hn)) (by rw [List.append_assoc]; exact hw) (by rw [← rpc']; exact hp)
          rw [hb2] at this; cases this
theorem Find_b (g : GF) {c : Conf} {now : List Int} {calls : List Call} {order : List Int} (M : Nat) (h : CF c calls) (hs : SOK c now) (fewc : calls.length ≤ 100) (fewo : order.length ≤ 100) (hM : order.length ≤ M)
    (hg : ∀ j : Int, 0 ≤ j → j < (calls.length : Int) → 0 ≤ tt calls j → j ∉ order → ∀ nx, SOK c nx → ∃ r, g nx (order ++ [j]) calls c = some r ∧ FR c calls nx (order ++ [j]) M (fun _ => True) r) :
    ∃ r, linz_Find_1_q g now order calls c = some r ∧ FR c calls now order M (fun _ => True) r := by
  rw [def_linz_Find_1]
  unfold linz_Find_1_n linz_Find_1_e
  obtain ⟨b, e1, hb⟩ := Whole_eq (calls := calls) (order := order) (by omega) (by omega)
  cases b with
  | true =>
    exact ⟨(order, true), bnd e1 (ct rfl rfl), fun h => (by cases h), fun _ => ⟨hM, [], (List.append_nil _).symm, fun n hn => (by cases hn), hb.1 rfl, rfl⟩, fun _ _ _ _ _ => rfl⟩
  | false =>
    obtain ⟨r, e2, hr⟩ := Find0_l g M h hs fewc fewo hg calls.length big 0 (big_lt (by omega)) (by omega) (by omega) (by omega)
    refine ⟨r, bnd e1 (cf rfl e2), hr.no, hr.yes, fun t _ ha hw hp => ?_⟩
    cases t with
    | nil => rw [List.append_nil] at hw; cases hb.2 hw
    | cons j u => exact hr.all _ ⟨j, u, rfl, (ha j List.mem_cons_self).1⟩ ha hw hp
theorem Find_m {c : Conf} {calls : List Call} (M : Nat) (h : CF c calls) (fewc : calls.length ≤ 100) (hM : M ≤ 100) : ∀ (k f : Nat) (order now : List Int), SOK c now → k < f → left calls order calls.length 0 ≤ k → order.length + k ≤ M → ∃ r, linz_Find_1_r f now order calls c = some r ∧ FR c calls now order M (fun _ => True) r := by
  intro k
  induction k with
  | zero =>
    intro f order now hs hf hl hk
    obtain ⟨m, rfl⟩ : ∃ m, f = m + 1 := ⟨f - 1, by omega⟩
    rw [linz_Find_1_ru]
    refine Find_b _ M h hs fewc (by omega) (by omega) fun j a b d e => ?_
    have := left_app d e calls.length 0 a (by omega)
    omega
  | succ k ih =>
    intro f order now hs hf hl hk
    obtain ⟨m, rfl⟩ : ∃ m, f = m + 1 := ⟨f - 1, by omega⟩
    rw [linz_Find_1_ru]
    refine Find_b _ M h hs fewc (by omega) (by omega) fun j a b d e nx hn => ?_
    have := left_app d e calls.length 0 a (by omega)
    exact ih m (order ++ [j]) nx hn (by omega) (by omega) (by simp only [List.length_append, List.length_singleton]; omega)
theorem Find_eq25 {c : Conf} {calls : List Call} {s : List Int} (h : CF c calls) (hs : SOK c s) (fewc : calls.length ≤ 50) : ∃ r, linz_Find c s calls = some r ∧ FR c calls s [] 100 (fun _ => True) r := by
  obtain ⟨r, e, hr⟩ := Find_m (calls := calls) 100 h (by omega) (by omega) calls.length big [] s hs (big_lt (by omega)) (left_le _ _) (by simp; omega)
  have e' : linz_Find_1 s [] calls c = some r := e
  refine ⟨r, ?_, hr⟩
  unfold linz_Find
  exact bnd e' rfl
end
end Go.Lv.Ld
