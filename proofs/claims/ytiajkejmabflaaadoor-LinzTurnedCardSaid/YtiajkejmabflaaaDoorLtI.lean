import Derived.Test.YtiajkejmabflaaaDoorLtH
namespace Go.Lv.Ld
set_option linter.all false
noncomputable section
open Go Go.Lv Go.IntWalk
def tt (l : List Call) (i : Int) : Int := match geti l i with | some x => x.to_ | none => 0
def ff (l : List Call) (i : Int) : Int := match geti l i with | some x => x.from_ | none => 0
theorem gC {l : List Call} {i : Int} (h0 : 0 ≤ i) (h : i < (l.length : Int)) : ∃ x, geti l i = some x ∧ x ∈ l ∧ tt l i = x.to_ ∧ ff l i = x.from_ := by
  have e : geti l i = some (l[i.toNat]'(by omega)) := by
    unfold geti
    rw [if_pos h0, List.getElem?_eq_getElem (show i.toNat < l.length by omega)]
  refine ⟨_, e, List.getElem_mem _, ?_, ?_⟩
  · unfold tt; rw [e]
  · unfold ff; rw [e]
/-- Calls that are small. -/
structure CK (x : Call) : Prop where
  ask : WAsk x.ask
  few : x.ask.addrs.length ≤ 100
  xa : U32 x.answer.addr
  x1 : x.answer.addrs.length ≤ 100000
  x2 : x.answer.errs.length ≤ 100000
/-- A replay. -/
def rp (c : Conf) (calls : List Call) : List Int → List Int → Option (List Int)
  | [], s => some s
  | n :: r, s => match geti calls n with
    | some x => if (lg c s x.ask x.answer).2 = true then rp c calls r (lg c s x.ask x.answer).1 else none
    | none => none
def rpv (s : List Int) : Option (List Int) → List Int × Bool
  | some t => (t, true)
  | none => (s, false)
def InR (calls : List Call) (order : List Int) : Prop := ∀ n, n ∈ order → 0 ≤ n ∧ n < (calls.length : Int)
structure CF (c : Conf) (calls : List Call) : Prop where
  ok : OKc c
  ub : U32 c.block.base
  few : many c.block ≤ 256
  cs : ∀ x, x ∈ calls → CK x
theorem CF.lok {c : Conf} {calls : List Call} (h : CF c calls) {s : List Int} (hs : SOK c s) {x : Call} (hx : x ∈ calls) : LOK c s x.ask x.answer :=
  ⟨h.ok, h.ub, h.few, hs, (h.cs x hx).ask, (h.cs x hx).few, (h.cs x hx).xa, (h.cs x hx).x1, (h.cs x hx).x2⟩
theorem hRep_l (c : Conf) (calls : List Call) (h : CF c calls) (order s0 : List Int) (hr : InR calls order) (few : order.length ≤ 100000) : ∀ (d n : Nat) (i : Int) (s : List Int), d < n → 0 ≤ i → ((order.length : Int) - i).toNat = d → i ≤ order.length → SOK c s →
    hist_Replay_l0 n s0 calls s order order.length i c = some (rpv s0 (rp c calls (order.drop i.toNat) s)) := by
  intro d
  induction d with
  | zero =>
    intro n i s hn h1 h2 h3 hs
    obtain ⟨m, rfl⟩ : ∃ m, n = m + 1 := ⟨n - 1, by omega⟩
    rw [su0_hist_Replay]
    unfold hist_Replay_s0
    rw [List.drop_eq_nil_of_le (by omega)]
    exact cf (decide_eq_false (by omega)) rfl
  | succ d ih =>
    intro n i s hn h1 h2 h3 hs
    obtain ⟨m, rfl⟩ : ∃ m, n = m + 1 := ⟨n - 1, by omega⟩
    have hj : i < (order.length : Int) := by omega
    obtain ⟨r0, r1⟩ := hr _ (gt_mem h1 hj)
    obtain ⟨x, e, hx, _, _⟩ := gC r0 r1
    rw [su0_hist_Replay]
    unfold hist_Replay_s0
    rw [i64_in (i + 1) (by omega), drop_cons h1 hj]
    refine ct (decide_eq_true hj) (bnd (geti_eq h1 hj) (bnd e (bnd e (bnd (Legal_eq (h.lok hs hx)) ?_))))
    unfold rp
    rw [e]
    show (bif (not (lg c s x.ask x.answer).2) then _ else _) = some (rpv s0 (if (lg c s x.ask x.answer).2 = true then _ else none))
    cases hb : (lg c s x.ask x.answer).2 with
    | true => rw [if_pos rfl]; exact cf rfl (ih m (i + 1) _ (by omega) (by omega) (by omega) (by omega) (lg_ok (h.lok hs hx)))
    | false => exact ct rfl rfl
theorem hRep_eq {c : Conf} {calls : List Call} (h : CF c calls) {order s : List Int} (hr : InR calls order) (few : order.length ≤ 100000) (hs : SOK c s) : hist_Replay c s calls order = some (rpv s (rp c calls order s)) :=
  hRep_l c calls h order s hr few order.length big 0 s (big_lt (by omega)) (by omega) (by omega) (by omega) hs
theorem rRep_l (c : Conf) (calls : List Call) (h : CF c calls) (order s0 : List Int) (hr : InR calls order) (few : order.length ≤ 100000) : ∀ (d n : Nat) (i : Int) (s : List Int), d < n → 0 ≤ i → ((order.length : Int) - i).toNat = d → i ≤ order.length → SOK c s →
    lodgerref24_Replay_l0 n s0 calls order s i c = some (rpv s0 (rp c calls (order.drop i.toNat) s)) := by
  intro d
  induction d with
  | zero =>
    intro n i s hn h1 h2 h3 hs
    obtain ⟨m, rfl⟩ : ∃ m, n = m + 1 := ⟨n - 1, by omega⟩
    rw [su0_lodgerref24_Replay]
    unfold lodgerref24_Replay_s0
    rw [List.drop_eq_nil_of_le (by omega)]
    exact cf (decide_eq_false (by omega)) rfl
  | succ d ih =>
    intro n i s hn h1 h2 h3 hs
    obtain ⟨m, rfl⟩ : ∃ m, n = m + 1 := ⟨n - 1, by omega⟩
    have hj : i < (order.length : Int) := by omega
    obtain ⟨r0, r1⟩ := hr _ (gt_mem h1 hj)
    obtain ⟨x, e, hx, _, _⟩ := gC r0 r1
    rw [su0_lodgerref24_Replay]
    unfold lodgerref24_Replay_s0
    rw [i64_in (i + 1) (by omega), drop_cons h1 hj]
    refine ct (decide_eq_true hj) (bnd (geti_eq h1 hj) (bnd e (bnd (rLegal_eq (h.lok hs hx)) ?_)))
    unfold rp
    rw [e]
    show (bif (not (lg c s x.ask x.answer).2) then _ else _) = some (rpv s0 (if (lg c s x.ask x.answer).2 = true then _ else none))
    cases hb : (lg c s x.ask x.answer).2 with
    | true => rw [if_pos rfl]; exact cf rfl (ih m (i + 1) _ (by omega) (by omega) (by omega) (by omega) (lg_ok (h.lok hs hx)))
    | false => exact ct rfl rfl
theorem rRep_eq {c : Conf} {calls : List Call} (h : CF c calls) {order s : List Int} (hr : InR calls order) (few : order.length ≤ 100000) (hs : SOK c s) : lodgerref24_Replay c s calls order = some (rpv s (rp c calls order s)) :=
  rRep_l c calls h order s hr few order.length big 0 s (big_lt (by omega)) (by omega) (by omega) (by omega) hs
theorem rp_app (c : Conf) (calls : List Call) : ∀ (a b s : List Int), rp c calls (a ++ b) s = (rp c calls a s).bind (rp c calls b)
  | [], b, s => rfl
  | n :: a, b, s => by
    show rp c calls (n :: (a ++ b)) s = _
    unfold rp
    split
    · split
      · exact rp_app c calls a b _
      · rfl
    · rfl
/-- Whether one stands rightly behind another one. -/
def Bh (calls : List Call) (i k : Int) : Prop := i ≠ k ∧ ¬ (0 ≤ tt calls i ∧ tt calls i < ff calls k)
structure Wh (calls : List Call) (order : List Int) : Prop where
  inr : InR calls order
  beh : ∀ i : Int, 0 ≤ i → i < (order.length : Int) → ∀ k, 0 ≤ k → k < i → Bh calls (gt order i) (gt order k)
  all : ∀ j : Int, 0 ≤ j → j < (calls.length : Int) → 0 ≤ tt calls j → j ∈ order
theorem IF_l (calls : List Call) (l : List Int) (x : Int) (hx : 0 ≤ x ∧ x < (calls.length : Int)) (hr : InR calls l) (few : l.length ≤ 100000) : ∀ (d n : Nat) (j : Int), d < n → 0 ≤ j → ((l.length : Int) - j).toNat = d → j ≤ l.length →
    ∃ r, slices_IndexFunc_l0 n l l.length j calls x = some r ∧ (0 ≤ r ↔ ∃ k : Int, j ≤ k ∧ k < (l.length : Int) ∧ 0 ≤ tt calls x ∧ tt calls x < ff calls (gt l k)) := by
  intro d
  induction d with
  | zero =>
    intro n j hn h1 h2 h3
    obtain ⟨m, rfl⟩ : ∃ m, n = m + 1 := ⟨n - 1, by omega⟩
    rw [su0_slices_IndexFunc]
    unfold slices_IndexFunc_s0
    exact ⟨-1, cf (decide_eq_false (by omega)) rfl, fun h => by omega, fun ⟨k, a, b, _⟩ => by omega⟩
  | succ d ih =>
    intro n j hn h1 h2 h3
    obtain ⟨m, rfl⟩ : ∃ m, n = m + 1 := ⟨n - 1, by omega⟩
    have hj : j < (l.length : Int) := by omega
    obtain ⟨r0, r1⟩ := hr _ (gt_mem h1 hj)
    obtain ⟨y, ey, _, _, fy⟩ := gC r0 r1
    obtain ⟨z, ez, _, tz, _⟩ := gC hx.1 hx.2
    obtain ⟨r, e1, e2⟩ := ih m (j + 1) (by omega) (by omega) (by omega) (by omega)
    rw [su0_slices_IndexFunc]
    unfold slices_IndexFunc_s0
    rw [i64_in (j + 1) (by omega)]
    have ha : linz_ahead z y = some (decide (0 ≤ tt calls x ∧ tt calls x < ff calls (gt l j))) := by
      unfold linz_ahead linz_answered
      rw [tz, fy]
      by_cases q : z.to_ ≥ 0
      · refine bnd rfl (ct (decide_eq_true q) ?_)
        rw [decide_eq_decide.2 (show z.to_ < y.from_ ↔ (0 ≤ z.to_ ∧ z.to_ < y.from_) from ⟨fun e => ⟨q, e⟩, fun e => e.2⟩)]
      · refine bnd rfl (cf (decide_eq_false q) ?_)
        rw [decide_eq_false (fun e => q e.1)]
    by_cases q : 0 ≤ tt calls x ∧ tt calls x < ff calls (gt l j)
    · exact ⟨j, ct (decide_eq_true hj) (bnd (geti_eq h1 hj) (bnd ez (bnd ey (bnd ha (ct (decide_eq_true q) rfl))))), fun _ => ⟨j, Int.le_refl _, hj, q⟩, fun _ => h1⟩
    · refine ⟨r, ct (decide_eq_true hj) (bnd (geti_eq h1 hj) (bnd ez (bnd ey (bnd ha (cf (decide_eq_false q) e1))))), e2.trans ?_⟩
      constructor
      · rintro ⟨k, a, b, c⟩; exact ⟨k, by omega, b, c⟩
      · rintro ⟨k, a, b, c⟩
        by_cases e : k = j
        · rw [e] at c; exact absurd c q
        · exact ⟨k, by omega, b, c⟩
theorem W1_l (calls : List Call) (order : List Int) (m : List (Int × Bool)) (hm : ∀ x, mget x m = decide (x ∈ order)) (few : calls.length ≤ 100000) : ∀ (d n : Nat) (j : Int), d < n → 0 ≤ j → ((calls.length : Int) - j).toNat = d → j ≤ calls.length →
    ∃ b, linz_Whole_l1 n calls calls.length j m = some b ∧ (b = true ↔ ∀ k : Int, j ≤ k → k < (calls.length : Int) → 0 ≤ tt calls k → k ∈ order) := by
  intro d
  induction d with
  | zero =>
    intro n j hn h1 h2 h3
    obtain ⟨k, rfl⟩ : ∃ m, n = m + 1 := ⟨n - 1, by omega⟩
    rw [su1_linz_Whole]
    unfold linz_Whole_s1
    exact ⟨true, cf (decide_eq_false (by omega)) rfl, fun _ k a b => by omega, fun _ => rfl⟩
  | succ d ih =>
    intro n j hn h1 h2 h3
    obtain ⟨k, rfl⟩ : ∃ m, n = m + 1 := ⟨n - 1, by omega⟩
    have hj : j < (calls.length : Int) := by omega
    obtain ⟨x, e, _, tx, _⟩ := gC h1 hj
    obtain ⟨b, e1, e2⟩ := ih k (j + 1) (by omega) (by omega) (by omega) (by omega)
    rw [su1_linz_Whole]
    unfold linz_Whole_s1
    rw [i64_in (j + 1) (by omega)]
    have step : (0 ≤ tt calls j → j ∈ order) → ((∀ k : Int, j + 1 ≤ k → k < (calls.length : Int) → 0 ≤ tt calls k → k ∈ order) ↔ ∀ k : Int, j ≤ k → k < (calls.length : Int) → 0 ≤ tt calls k → k ∈ order) := fun hq =>
      ⟨fun h k a b c => by
        by_cases e : k = j
        · rw [e] at c ⊢; exact hq c
        · exact h k (by omega) b c, fun h k a b c => h k (by omega) b c⟩
    by_cases q : x.to_ ≥ 0
    · by_cases q2 : j ∈ order
      · refine ⟨b, ct (decide_eq_true hj) (bnd e (bnd rfl (ct (decide_eq_true q) (cf (by rw [hm, decide_eq_true q2]; rfl) e1)))), e2.trans (step fun _ => q2)⟩
      · refine ⟨false, ct (decide_eq_true hj) (bnd e (bnd rfl (ct (decide_eq_true q) (ct (by rw [hm, decide_eq_false q2]; rfl) rfl)))), fun h => (by cases h), fun h => absurd (h j (Int.le_refl _) hj (by rw [tx]; exact q)) q2⟩
    · refine ⟨b, ct (decide_eq_true hj) (bnd e (bnd rfl (cf (decide_eq_false q) e1))), e2.trans (step fun h => by rw [tx] at h; exact absurd h q)⟩
end
end Go.Lv.Ld
namespace Go.Lv.Ld
set_option linter.all false
noncomputable section
open Go Go.Lv Go.IntWalk
def Pre (calls : List Call) (order : List Int) (i : Int) : Prop := ∀ q : Int, 0 ≤ q → q < i → (0 ≤ gt order q ∧ gt order q < (calls.length : Int)) ∧ ∀ k, 0 ≤ k → k < q → Bh calls (gt order q) (gt order k)
theorem Pre.succ {calls : List Call} {order : List Int} {i : Int} (h : Pre calls order i) (h1 : 0 ≤ gt order i ∧ gt order i < (calls.length : Int)) (h2 : ∀ k, 0 ≤ k → k < i → Bh calls (gt order i) (gt order k)) : Pre calls order (i + 1) := by
  intro q q0 q1
  by_cases e : q = i
  · rw [e]; exact ⟨h1, h2⟩
  · exact h q q0 (by omega)
theorem Wh_pre {calls : List Call} {order : List Int} : Wh calls order ↔ Pre calls order order.length ∧ ∀ j : Int, 0 ≤ j → j < (calls.length : Int) → 0 ≤ tt calls j → j ∈ order := by
  constructor
  · rintro ⟨a, b, c⟩
    exact ⟨fun q q0 q1 => ⟨a _ (gt_mem q0 q1), b q q0 q1⟩, c⟩
  · rintro ⟨a, c⟩
    refine ⟨fun n hn => ?_, fun i i0 i1 => (a i i0 i1).2, c⟩
    obtain ⟨j, j0, j1, j2⟩ := mem_gt hn
    rw [← j2]; exact (a j j0 j1).1
theorem mem_take_gt {l : List Int} {i : Int} (h0 : 0 ≤ i) (h : i ≤ (l.length : Int)) (x : Int) : x ∈ l.take i.toNat ↔ ∃ k : Int, 0 ≤ k ∧ k < i ∧ gt l k = x := by
  constructor
  · intro hx
    obtain ⟨q, hq⟩ := List.getElem?_of_mem hx
    have hl := (List.getElem?_eq_some_iff.1 hq).1
    rw [List.length_take] at hl
    rw [List.getElem?_take, if_pos (by omega)] at hq
    have := get?_gt (l := l) (i := (q : Int)) (by omega) (by omega)
    rw [Int.toNat_natCast, hq] at this
    exact ⟨q, by omega, by omega, (Option.some.inj this).symm⟩
  · rintro ⟨k, k0, k1, rfl⟩
    have g := get?_gt (l := l) (i := k) k0 (by omega)
    have : (l.take i.toNat)[k.toNat]? = some (gt l k) := by rw [List.getElem?_take, if_pos (by omega)]; exact g
    exact List.mem_of_getElem? this
theorem gt_take {l : List Int} {i k : Int} (h0 : 0 ≤ k) (h : k < i) : gt (l.take i.toNat) k = gt l k := by
  unfold gt
  rw [List.getD_eq_getElem?_getD, List.getD_eq_getElem?_getD, List.getElem?_take, if_pos (by omega)]
theorem W0_l (calls : List Call) (order : List Int) (few : calls.length ≤ 100000) (fewo : order.length ≤ 100000) : ∀ (d n : Nat) (i : Int) (m : List (Int × Bool)), d + 200000 < n → 0 ≤ i → ((order.length : Int) - i).toNat = d → i ≤ order.length → Pre calls order i → (∀ x, mget x m = decide (x ∈ order.take i.toNat)) →
    ∃ b, linz_Whole_l0 n order order order.length i calls m = some b ∧ (b = true ↔ Wh calls order) := by
  intro d
  induction d with
  | zero =>
    intro n i m hn h1 h2 h3 hp hm
    obtain ⟨k, rfl⟩ : ∃ m, n = m + 1 := ⟨n - 1, by omega⟩
    have ei : i = (order.length : Int) := by omega
    subst ei
    rw [su0_linz_Whole]
    unfold linz_Whole_s0
    obtain ⟨b, e1, e2⟩ := W1_l calls order m (fun x => by rw [hm, Int.toNat_natCast, List.take_length]) few calls.length k 0 (by omega) (by omega) (by omega) (by omega)
    refine ⟨b, cf (decide_eq_false (by omega)) e1, e2.trans ?_⟩
    rw [Wh_pre]
    exact ⟨fun h => ⟨hp, h⟩, fun h => h.2⟩
  | succ d ih =>
    intro n i m hn h1 h2 h3 hp hm
    obtain ⟨k, rfl⟩ : ∃ m, n = m + 1 := ⟨n - 1, by omega⟩
    have hj : i < (order.length : Int) := by omega
    rw [su0_linz_Whole]
    unfold linz_Whole_s0
    rw [i64_in (i + 1) (by omega)]
    by_cases q1 : gt order i < 0
    · refine ⟨false, ct (decide_eq_true hj) (bnd (geti_eq h1 hj) (ct (decide_eq_true q1) rfl)), fun h => (by cases h), fun h => ?_⟩
      have := (h.inr _ (gt_mem h1 hj)).1; omega
    by_cases q2 : gt order i ≥ (calls.length : Int)
    · refine ⟨false, ct (decide_eq_true hj) (bnd (geti_eq h1 hj) (cf (decide_eq_false q1) (ct (decide_eq_true q2) rfl))), fun h => (by cases h), fun h => ?_⟩
      have := (h.inr _ (gt_mem h1 hj)).2; omega
    by_cases q3 : gt order i ∈ order.take i.toNat
    · refine ⟨false, ct (decide_eq_true hj) (bnd (geti_eq h1 hj) (cf (decide_eq_false q1) (cf (decide_eq_false q2) (ct ((hm _).trans (decide_eq_true q3)) rfl)))), fun h => (by cases h), fun h => ?_⟩
      obtain ⟨z, z0, z1, z2⟩ := (mem_take_gt h1 h3 _).1 q3
      exact absurd z2.symm (h.beh i h1 hj z z0 z1).1
    have hb : okBounds (order.length : Int) 0 i none = true := by unfold okBounds; rw [decide_eq_true ⟨Int.le_refl _, h1, h3⟩]; rfl
    have hl : ((order.take i.toNat).length : Int) = i := by rw [List.length_take]; omega
    have hrt : InR calls (order.take i.toNat) := fun x hx => by
      obtain ⟨z, z0, z1, z2⟩ := (mem_take_gt h1 h3 _).1 hx
      rw [← z2]; exact (hp z z0 z1).1
    obtain ⟨r, r1, r2⟩ := IF_l calls (order.take i.toNat) (gt order i) ⟨by omega, by omega⟩ hrt (by omega) (order.take i.toNat).length big 0 (big_lt (by omega)) (by omega) (by omega) (by omega)
    have r1' : slices_IndexFunc ((order.take i.toNat).drop (Int.toNat 0)) calls (gt order i) = some r := r1
    by_cases q4 : 0 ≤ r
    · refine ⟨false, ct (decide_eq_true hj) (bnd (geti_eq h1 hj) (cf (decide_eq_false q1) (cf (decide_eq_false q2) (cf ((hm _).trans (decide_eq_false q3)) (ct hb (bnd r1' (ct (decide_eq_true q4) rfl))))))), fun h => (by cases h), fun h => ?_⟩
      obtain ⟨z, z0, z1, z2⟩ := r2.1 q4
      rw [hl] at z1
      rw [gt_take z0 z1] at z2
      exact absurd z2 (h.beh i h1 hj z z0 z1).2
    · have hp' : Pre calls order (i + 1) := hp.succ ⟨by omega, by omega⟩ fun z z0 z1 => ⟨fun e => q3 ((mem_take_gt h1 h3 _).2 ⟨z, z0, z1, e.symm⟩), fun e => q4 (r2.2 ⟨z, z0, by omega, by rw [gt_take z0 z1]; exact e⟩)⟩
      obtain ⟨b, b1, b2⟩ := ih k (i + 1) (mput (gt order i) true m) (by omega) (by omega) (by omega) (by omega) hp' (fun x => by
        rw [mget_mput, hm, Bool.eq_iff_iff, Bool.or_eq_true, decide_eq_true_eq, decide_eq_true_eq, decide_eq_true_eq, mem_take_gt h1 h3, mem_take_gt (i := i + 1) (by omega) (by omega)]
        constructor
        · rintro (e | ⟨z, z0, z1, z2⟩)
          · exact ⟨i, h1, by omega, e.symm⟩
          · exact ⟨z, z0, by omega, z2⟩
        · rintro ⟨z, z0, z1, z2⟩
          by_cases e : z = i
          · left; rw [← z2, e]
          · right; exact ⟨z, z0, by omega, z2⟩)
      exact ⟨b, ct (decide_eq_true hj) (bnd (geti_eq h1 hj) (cf (decide_eq_false q1) (cf (decide_eq_false q2) (cf ((hm _).trans (decide_eq_false q3)) (ct hb (bnd r1' (cf (decide_eq_false q4) b1))))))), b2⟩
theorem Whole_eq {calls : List Call} {order : List Int} (few : calls.length ≤ 100000) (fewo : order.length ≤ 100000) : ∃ b, linz_Whole calls order = some b ∧ (b = true ↔ Wh calls order) :=
  W0_l calls order few fewo order.length big 0 [] (big_lt (by omega)) (by omega) (by omega) (by omega) (fun q a b => by omega) (fun x => by simp [mget])
theorem R1_l (calls : List Call) (order : List Int) (i : Int) (h0 : 0 ≤ i) (hi : i < (order.length : Int)) (hr : ∀ q : Int, 0 ≤ q → q ≤ i → 0 ≤ gt order q ∧ gt order q < (calls.length : Int)) (fewo : order.length ≤ 100) : ∀ (d n : Nat) (k : Int), d < n → 0 ≤ k → (i - k).toNat = d → k ≤ i →
    ((¬ ∀ z : Int, k ≤ z → z < i → Bh calls (gt order i) (gt order z)) → lodgerref25_Whole_l1 n calls order i k = some false) ∧ ((∀ z : Int, k ≤ z → z < i → Bh calls (gt order i) (gt order z)) → lodgerref25_Whole_l1 n calls order i k = lodgerref25_Whole_l0 (n - d - 1) calls order (i + 1)) := by
  intro d
  induction d with
  | zero =>
    intro n k hn h1 h2 h3
    obtain ⟨m, rfl⟩ : ∃ m, n = m + 1 := ⟨n - 1, by omega⟩
    rw [su1_lodgerref25_Whole]
    unfold lodgerref25_Whole_s1
    rw [i64_in (i + 1) (by omega)]
    exact ⟨fun h => absurd (fun z a b => by omega) h, fun _ => cf (decide_eq_false (by omega)) rfl⟩
  | succ d ih =>
    intro n k hn h1 h2 h3
    obtain ⟨m, rfl⟩ : ∃ m, n = m + 1 := ⟨n - 1, by omega⟩
    obtain ⟨g1, g2⟩ := ih m (k + 1) (by omega) (by omega) (by omega) (by omega)
    have hki : k < i := by clear g1 g2; omega
    have hk : k < (order.length : Int) := by clear g1 g2; omega
    obtain ⟨a0, a1⟩ := hr k h1 (by clear g1 g2; omega)
    obtain ⟨b0, b1⟩ := hr i h0 (Int.le_refl _)
    obtain ⟨x, ex, _, _, fx⟩ := gC a0 a1
    obtain ⟨y, ey, _, ty, _⟩ := gC b0 b1
    have e64 : IntKind.wrap .i64 (k + 1) = k + 1 := i64_in (k + 1) (by clear g1 g2; omega)
    have fuel : m + 1 - (d + 1) - 1 = m - d - 1 := by clear g1 g2; omega
    rw [su1_lodgerref25_Whole]
    unfold lodgerref25_Whole_s1
    rw [e64, fuel]
    have step : Bh calls (gt order i) (gt order k) → ((∀ z : Int, k + 1 ≤ z → z < i → Bh calls (gt order i) (gt order z)) ↔ ∀ z : Int, k ≤ z → z < i → Bh calls (gt order i) (gt order z)) := fun hb =>
      ⟨fun h z a b => by
        by_cases e : z = k
        · rw [e]; exact hb
        · exact h z (by clear g1 g2; omega) b, fun h z a b => h z (by clear g1 g2; omega) b⟩
    by_cases hb : Bh calls (gt order i) (gt order k)
    · have st := step hb
      obtain ⟨hb1, hb2⟩ := hb
      have red : ∀ r, lodgerref25_Whole_l1 m calls order i (k + 1) = r → (bif (decide (k < i)) then ((geti order k).bind fun x3 => ((geti calls x3).bind fun x4 => ((geti order i).bind fun x5 => ((geti calls x5).bind fun x6 => ((geti order i).bind fun x7 => ((geti order k).bind fun x8 => (bif (x7 == x8) then some false else (bif (decide (x6.to_ ≥ 0)) then (bif (decide (x6.to_ < x4.from_)) then some false else lodgerref25_Whole_l1 m calls order i (k + 1)) else lodgerref25_Whole_l1 m calls order i (k + 1)))))))))
          else lodgerref25_Whole_l0 m calls order (IntKind.wrap .i64 (i + 1))) = r := by
        intro r hr'
        refine ct (decide_eq_true hki) (bnd (geti_eq h1 hk) (bnd ex (bnd (geti_eq h0 hi) (bnd ey (bnd (geti_eq h0 hi) (bnd (geti_eq h1 hk) (cf (beq_eq_false_iff_ne.2 hb1) ?_)))))))
        by_cases q : y.to_ ≥ 0
        · exact ct (decide_eq_true q) (cf (decide_eq_false fun e => hb2 (by rw [ty, fx]; exact ⟨q, e⟩)) hr')
        · exact cf (decide_eq_false q) hr'
      exact ⟨fun h => red _ (g1 fun h' => h (st.1 h')), fun h => red _ (g2 (st.2 h))⟩
    · have red : (bif (decide (k < i)) then ((geti order k).bind fun x3 => ((geti calls x3).bind fun x4 => ((geti order i).bind fun x5 => ((geti calls x5).bind fun x6 => ((geti order i).bind fun x7 => ((geti order k).bind fun x8 => (bif (x7 == x8) then some false else (bif (decide (x6.to_ ≥ 0)) then (bif (decide (x6.to_ < x4.from_)) then some false else lodgerref25_Whole_l1 m calls order i (k + 1)) else lodgerref25_Whole_l1 m calls order i (k + 1)))))))))
          else lodgerref25_Whole_l0 m calls order (IntKind.wrap .i64 (i + 1))) = some false := by
        refine ct (decide_eq_true hki) (bnd (geti_eq h1 hk) (bnd ex (bnd (geti_eq h0 hi) (bnd ey (bnd (geti_eq h0 hi) (bnd (geti_eq h1 hk) ?_))))))
        by_cases e : gt order i = gt order k
        · exact ct (beq_iff_eq.2 e) rfl
        · refine cf (beq_eq_false_iff_ne.2 e) ?_
          have hh : 0 ≤ tt calls (gt order i) ∧ tt calls (gt order i) < ff calls (gt order k) := Decidable.not_not.1 fun q => hb ⟨e, q⟩
          rw [ty, fx] at hh
          exact ct (decide_eq_true hh.1) (ct (decide_eq_true hh.2) rfl)
      exact ⟨fun _ => red, fun h => absurd (h k (Int.le_refl _) hki) hb⟩
theorem R3_l (calls : List Call) (order : List Int) (j : Int) (hj0 : 0 ≤ j) (hj : j < (calls.length : Int)) (fewc : calls.length ≤ 100) (fewo : order.length ≤ 100) : ∀ (d n : Nat) (k : Int) (th : Bool), d < n → 0 ≤ k → ((order.length : Int) - k).toNat = d → k ≤ order.length →
    lodgerref25_Whole_l3 n calls order j th k = if 0 ≤ tt calls j ∧ ¬ (th = true ∨ j ∈ order.drop k.toNat) then some false else lodgerref25_Whole_l2 (n - d - 1) calls order (j + 1) := by
  intro d
  induction d with
  | zero =>
    intro n k th hn h1 h2 h3
    obtain ⟨m, rfl⟩ : ∃ m, n = m + 1 := ⟨n - 1, by omega⟩
    obtain ⟨x, ex, _, tx, _⟩ := gC hj0 hj
    rw [su3_lodgerref25_Whole]
    unfold lodgerref25_Whole_s3
    rw [i64_in (j + 1) (by omega), List.drop_eq_nil_of_le (by omega), tx]
    refine cf (decide_eq_false (by omega)) (bnd ex ?_)
    by_cases q : x.to_ ≥ 0
    · refine ct (decide_eq_true q) ?_
      cases th with
      | true => rw [if_neg (by simp)]; exact cf rfl rfl
      | false => rw [if_pos ⟨q, by simp⟩]; exact ct rfl rfl
    · rw [if_neg (fun e => q e.1)]
      exact cf (decide_eq_false q) rfl
  | succ d ih =>
    intro n k th hn h1 h2 h3
    obtain ⟨m, rfl⟩ : ∃ m, n = m + 1 := ⟨n - 1, by omega⟩
    have hk : k < (order.length : Int) := by omega
    rw [su3_lodgerref25_Whole]
    unfold lodgerref25_Whole_s3
    rw [i64_in (k + 1) (by omega), drop_cons h1 hk, show m + 1 - (d + 1) - 1 = m - d - 1 by omega]
    refine ct (decide_eq_true hk) ?_
    cases th with
    | true =>
      refine ct rfl ?_
      rw [ih m (k + 1) true (by omega) (by omega) (by omega) (by omega), if_neg (by simp), if_neg (by simp)]
    | false =>
      refine cf rfl (bnd (geti_eq h1 hk) ?_)
      rw [ih m (k + 1) _ (by omega) (by omega) (by omega) (by omega)]
      have e : ((gt order k == j) = true ∨ j ∈ order.drop (k + 1).toNat) ↔ (false = true ∨ j ∈ gt order k :: order.drop (k + 1).toNat) := by
        rw [List.mem_cons, beq_iff_eq]
        constructor
        · rintro (e | e)
          · exact .inr (.inl e.symm)
          · exact .inr (.inr e)
        · rintro (e | e | e)
          · cases e
          · exact .inl e.symm
          · exact .inr e
      by_cases q : 0 ≤ tt calls j ∧ ¬ ((gt order k == j) = true ∨ j ∈ order.drop (k + 1).toNat)
      · rw [if_pos q, if_pos ⟨q.1, fun z => q.2 (e.2 z)⟩]
      · rw [if_neg q, if_neg (fun z => q ⟨z.1, fun y => z.2 (e.1 y)⟩)]
theorem R2_l (calls : List Call) (order : List Int) (fewc : calls.length ≤ 100) (fewo : order.length ≤ 100) : ∀ (d n : Nat) (j : Int), d * 103 < n → 0 ≤ j → ((calls.length : Int) - j).toNat = d → j ≤ calls.length →
    ∃ b, lodgerref25_Whole_l2 n calls order j = some b ∧ (b = true ↔ ∀ k : Int, j ≤ k → k < (calls.length : Int) → 0 ≤ tt calls k → k ∈ order) := by
  intro d
  induction d with
  | zero =>
    intro n j hn h1 h2 h3
    obtain ⟨m, rfl⟩ : ∃ m, n = m + 1 := ⟨n - 1, by omega⟩
    rw [su2_lodgerref25_Whole]
    unfold lodgerref25_Whole_s2
    exact ⟨true, cf (decide_eq_false (by omega)) rfl, fun _ k a b => by omega, fun _ => rfl⟩
  | succ d ih =>
    intro n j hn h1 h2 h3
    obtain ⟨m, rfl⟩ : ∃ m, n = m + 1 := ⟨n - 1, by omega⟩
    have hj : j < (calls.length : Int) := by omega
    obtain ⟨b, e1, e2⟩ := ih (m - order.length - 1) (j + 1) (by omega) (by omega) (by omega) (by omega)
    have r3 := R3_l calls order j h1 hj fewc fewo order.length m 0 false (by omega) (by omega) (by omega) (by omega)
    rw [su2_lodgerref25_Whole]
    unfold lodgerref25_Whole_s2
    by_cases q : 0 ≤ tt calls j ∧ ¬ (false = true ∨ j ∈ order.drop (Int.toNat 0))
    · refine ⟨false, ct (decide_eq_true hj) (r3.trans (if_pos q)), fun h => (by cases h), fun h => ?_⟩
      exact absurd (.inr (h j (Int.le_refl _) hj q.1)) q.2
    · refine ⟨b, ct (decide_eq_true hj) (r3.trans ((if_neg q).trans e1)), e2.trans ?_⟩
      have hq : 0 ≤ tt calls j → j ∈ order := fun a => by
        by_cases z : j ∈ order
        · exact z
        · exact absurd ⟨a, fun y => y.elim (fun y => by cases y) z⟩ q
      exact ⟨fun h k a b c => by
        by_cases e : k = j
        · rw [e] at c ⊢; exact hq c
        · exact h k (by omega) b c, fun h k a b c => h k (by omega) b c⟩
theorem R0_l (calls : List Call) (order : List Int) (fewc : calls.length ≤ 100) (fewo : order.length ≤ 100) : ∀ (d n : Nat) (i : Int), d * 103 + 11000 < n → 0 ≤ i → ((order.length : Int) - i).toNat = d → i ≤ order.length → Pre calls order i →
    ∃ b, lodgerref25_Whole_l0 n calls order i = some b ∧ (b = true ↔ Wh calls order) := by
  intro d
  induction d with
  | zero =>
    intro n i hn h1 h2 h3 hp
    obtain ⟨m, rfl⟩ : ∃ m, n = m + 1 := ⟨n - 1, by omega⟩
    have ei : i = (order.length : Int) := by omega
    subst ei
    rw [su0_lodgerref25_Whole]
    unfold lodgerref25_Whole_s0
    obtain ⟨b, e1, e2⟩ := R2_l calls order fewc fewo calls.length m 0 (by omega) (by omega) (by omega) (by omega)
    refine ⟨b, cf (decide_eq_false (by omega)) e1, e2.trans ?_⟩
    rw [Wh_pre]
    exact ⟨fun h => ⟨hp, h⟩, fun h => h.2⟩
  | succ d ih =>
    intro n i hn h1 h2 h3 hp
    obtain ⟨m, rfl⟩ : ∃ m, n = m + 1 := ⟨n - 1, by omega⟩
    have hj : i < (order.length : Int) := by omega
    rw [su0_lodgerref25_Whole]
    unfold lodgerref25_Whole_s0
    by_cases q1 : gt order i < 0
    · refine ⟨false, ct (decide_eq_true hj) (bnd (geti_eq h1 hj) (ct (decide_eq_true q1) rfl)), fun h => (by cases h), fun h => ?_⟩
      have := (h.inr _ (gt_mem h1 hj)).1; omega
    by_cases q2 : gt order i ≥ (calls.length : Int)
    · refine ⟨false, ct (decide_eq_true hj) (bnd (geti_eq h1 hj) (cf (decide_eq_false q1) (bnd (geti_eq h1 hj) (ct (decide_eq_true q2) rfl)))), fun h => (by cases h), fun h => ?_⟩
      have := (h.inr _ (gt_mem h1 hj)).2; omega
    obtain ⟨g1, g2⟩ := R1_l calls order i h1 hj (fun q a b => by
      by_cases e : q = i
      · rw [e]; exact ⟨by omega, by omega⟩
      · exact (hp q a (by omega)).1) fewo i.toNat m 0 (by omega) (by omega) (by omega) (by omega)
    by_cases hb : ∀ z : Int, 0 ≤ z → z < i → Bh calls (gt order i) (gt order z)
    · obtain ⟨b, b1, b2⟩ := ih (m - i.toNat - 1) (i + 1) (by clear g1 g2; omega) (by clear g1 g2; omega) (by clear g1 g2; omega) (by clear g1 g2; omega) (hp.succ ⟨by clear g1 g2; omega, by clear g1 g2; omega⟩ hb)
      exact ⟨b, ct (decide_eq_true hj) (bnd (geti_eq h1 hj) (cf (decide_eq_false q1) (bnd (geti_eq h1 hj) (cf (decide_eq_false q2) ((g2 hb).trans b1))))), b2⟩
    · exact ⟨false, ct (decide_eq_true hj) (bnd (geti_eq h1 hj) (cf (decide_eq_false q1) (bnd (geti_eq h1 hj) (cf (decide_eq_false q2) (g1 hb))))), fun h => (by cases h), fun h => absurd (fun z a b => h.beh i h1 hj z a b) hb⟩
theorem rWhole25_eq {calls : List Call} {order : List Int} (few : calls.length ≤ 100) (fewo : order.length ≤ 100) : ∃ b, lodgerref25_Whole calls order = some b ∧ (b = true ↔ Wh calls order) :=
  R0_l calls order few fewo order.length big 0 (big_lt (by omega)) (by omega) (by omega) (by omega) (fun q a b => by omega)
end
end Go.Lv.Ld
namespace Go.Lv.Ld
set_option linter.all false
noncomputable section
open Go Go.Lv Go.IntWalk
theorem rpv_2 (s : List Int) (o : Option (List Int)) : (rpv s o).2 = o.isSome := by cases o <;> rfl
theorem Good_eq {c : Conf} {calls : List Call} (h : CF c calls) {s order : List Int} (hs : SOK c s) (fewc : calls.length ≤ 100000) (fewo : order.length ≤ 100000) : ∃ b, linz_Good c s calls order = some b ∧ (b = true ↔ Wh calls order ∧ (rp c calls order s).isSome = true) := by
  obtain ⟨b, e, hb⟩ := Whole_eq fewc fewo
  unfold linz_Good
  cases b with
  | false => exact ⟨false, bnd e (ct rfl rfl), fun h => (by cases h), fun h => hb.2 h.1⟩
  | true =>
    have hw := hb.1 rfl
    refine ⟨_, bnd e (cf rfl (bnd (hRep_eq h hw.inr fewo hs) rfl)), ?_⟩
    rw [rpv_2]
    exact ⟨fun h => ⟨hw, h⟩, fun h => h.2⟩
theorem rGood_eq {c : Conf} {calls : List Call} (h : CF c calls) {s order : List Int} (hs : SOK c s) (fewc : calls.length ≤ 100) (fewo : order.length ≤ 100) : ∃ b, lodgerref25_Good c s calls order = some b ∧ (b = true ↔ Wh calls order ∧ (rp c calls order s).isSome = true) := by
  obtain ⟨b, e, hb⟩ := rWhole25_eq fewc fewo
  unfold lodgerref25_Good
  cases b with
  | false => exact ⟨false, bnd e (ct rfl rfl), fun h => (by cases h), fun h => hb.2 h.1⟩
  | true =>
    have hw := hb.1 rfl
    refine ⟨_, bnd e (cf rfl (bnd (rRep_eq h hw.inr (by omega) hs) rfl)), ?_⟩
    rw [rpv_2]
    exact ⟨fun h => ⟨hw, h⟩, fun h => h.2⟩
/-- Calls that are few and small. -/
structure FewC (calls : List Call) (k : Int) : Prop where
  len : (calls.length : Int) ≤ k
  cs : ∀ x, x ∈ calls → x.ask.addrs.length ≤ 100 ∧ x.answer.addrs.length ≤ 300 ∧ x.answer.errs.length ≤ 300
theorem Few_l (calls : List Call) (k : Int) : ∀ (d n : Nat) (i : Int), d < n → 0 ≤ i → (100 - i).toNat = d → i ≤ 100 →
    ∃ b, lodgerref25_Few_l0 n calls k i = some b ∧ (b = true → (calls.length : Int) ≤ k ∧ ∀ j : Int, i ≤ j → j < (calls.length : Int) → j < 100 → ∀ x, geti calls j = some x → x.ask.addrs.length ≤ 100 ∧ x.answer.addrs.length ≤ 300 ∧ x.answer.errs.length ≤ 300) := by
  intro d
  induction d with
  | zero =>
    intro n i hn h1 h2 h3
    obtain ⟨m, rfl⟩ : ∃ m, n = m + 1 := ⟨n - 1, by omega⟩
    rw [su0_lodgerref25_Few]
    unfold lodgerref25_Few_s0
    refine ⟨decide ((calls.length : Int) ≤ k), ?_, fun h => ⟨of_decide_eq_true h, fun j a b c => by omega⟩⟩
    by_cases hj : i < (calls.length : Int)
    · exact ct (decide_eq_true hj) (cf (decide_eq_false (by omega)) rfl)
    · exact cf (decide_eq_false hj) rfl
  | succ d ih =>
    intro n i hn h1 h2 h3
    obtain ⟨m, rfl⟩ : ∃ m, n = m + 1 := ⟨n - 1, by omega⟩
    rw [su0_lodgerref25_Few]
    unfold lodgerref25_Few_s0
    by_cases hj : i < (calls.length : Int)
    rotate_left
    · exact ⟨decide ((calls.length : Int) ≤ k), cf (decide_eq_false hj) rfl, fun h => ⟨of_decide_eq_true h, fun j a b c => by omega⟩⟩
    obtain ⟨x, e, _, _, _⟩ := gC h1 hj
    rw [i64_in (i + 1) (by omega)]
    have go : ∀ {y : Option Bool} {P : Prop}, (∃ b, y = some b ∧ (b = true → P)) → ∃ b, (bif decide (i < (calls.length : Int)) then (bif decide (i < 100) then y else some (decide ((calls.length : Int) ≤ k))) else some (decide ((calls.length : Int) ≤ k))) = some b ∧ (b = true → P) := fun ⟨b, e, h⟩ => ⟨b, ct (decide_eq_true hj) (ct (decide_eq_true (by omega)) e), h⟩
    refine go ?_
    by_cases q1 : (x.ask.addrs.length : Int) > 100
    · exact ⟨false, bnd e (ct (decide_eq_true q1) rfl), fun h => by cases h⟩
    by_cases q2 : (x.answer.addrs.length : Int) > 300
    · exact ⟨false, bnd e (cf (decide_eq_false q1) (bnd e (ct (decide_eq_true q2) rfl))), fun h => by cases h⟩
    by_cases q3 : (x.answer.errs.length : Int) > 300
    · exact ⟨false, bnd e (cf (decide_eq_false q1) (bnd e (cf (decide_eq_false q2) (bnd e (ct (decide_eq_true q3) rfl))))), fun h => by cases h⟩
    obtain ⟨b, e1, hb⟩ := ih m (i + 1) (by omega) (by omega) (by omega) (by omega)
    refine ⟨b, bnd e (cf (decide_eq_false q1) (bnd e (cf (decide_eq_false q2) (bnd e (cf (decide_eq_false q3) e1))))), fun h => ⟨(hb h).1, fun j a b c y ey => ?_⟩⟩
    by_cases ej : j = i
    · rw [ej, e] at ey
      cases ey
      omega
    · exact (hb h).2 j (by omega) b c y ey
theorem Few_eq (calls : List Call) {k : Int} (hk : k ≤ 100) : ∃ b, lodgerref25_Few calls k = some b ∧ (b = true → FewC calls k) := by
  obtain ⟨b, e, hb⟩ := Few_l calls k 100 big 0 (big_lt (by omega)) (by omega) (by omega) (by omega)
  refine ⟨b, e, fun h => ⟨(hb h).1, fun x hx => ?_⟩⟩
  obtain ⟨i, hi⟩ := List.getElem?_of_mem hx
  have hl := (List.getElem?_eq_some_iff.1 hi).1
  have := (hb h).1
  refine (hb h).2 i (by omega) (by omega) (by omega) x ?_
  unfold geti
  rw [if_pos (by omega), Int.toNat_natCast]; exact hi
theorem sMay_l (c : Conf) (s : List Int) (ok : OKc c) (few : s.length ≤ 300) : ∀ (d n : Nat) (i : Int), d < n → 0 ≤ i → ((s.length : Int) - i).toNat = d → i ≤ s.length →
    ∃ b, lodgerref09_May_l0 n s i c = some b ∧ (b = true → ∀ j : Int, i ≤ j → j < (s.length : Int) → 0 ≤ gt s j ∧ gt s j < many c.block ∧ (0 < j → gt s (j - 1) < gt s j)) := by
  intro d
  induction d with
  | zero =>
    intro n i hn h1 h2 h3
    obtain ⟨m, rfl⟩ : ∃ m, n = m + 1 := ⟨n - 1, by omega⟩
    rw [su0_lodgerref09_May]
    unfold lodgerref09_May_s0
    exact ⟨true, cf (decide_eq_false (by omega)) rfl, fun _ j q1 q2 => by omega⟩
  | succ d ih =>
    intro n i hn h1 h2 h3
    obtain ⟨m, rfl⟩ : ∃ m, n = m + 1 := ⟨n - 1, by omega⟩
    have hj : i < (s.length : Int) := by omega
    have hg := geti_eq h1 hj
    rw [su0_lodgerref09_May]
    unfold lodgerref09_May_s0
    rw [i64_in (i + 1) (by omega), i64_in (i - 1) (by omega)]
    by_cases q1 : gt s i < 0
    · exact ⟨false, ct (decide_eq_true hj) (bnd hg (ct (decide_eq_true q1) rfl)), fun h => by cases h⟩
    by_cases q2 : gt s i ≥ many c.block
    · exact ⟨false, ct (decide_eq_true hj) (bnd hg (cf (decide_eq_false q1) (bnd hg (bnd (rMany_eq ok.blk) (ct (decide_eq_true q2) rfl))))), fun h => by cases h⟩
    cases q3 : heldB c (gt s i) with
    | true => exact ⟨false, ct (decide_eq_true hj) (bnd hg (cf (decide_eq_false q1) (bnd hg (bnd (rMany_eq ok.blk) (cf (decide_eq_false q2) (bnd hg (bnd (rHeld_eq ok.few _) (ct q3 rfl)))))))), fun h => by cases h⟩
    | false =>
      obtain ⟨b, e1, hb⟩ := ih m (i + 1) (by omega) (by omega) (by omega) (by omega)
      by_cases q4 : i > 0
      · have hg' := geti_eq (l := s) (i := i - 1) (by omega) (by omega)
        by_cases q5 : gt s (i - 1) ≥ gt s i
        · exact ⟨false, ct (decide_eq_true hj) (bnd hg (cf (decide_eq_false q1) (bnd hg (bnd (rMany_eq ok.blk) (cf (decide_eq_false q2) (bnd hg (bnd (rHeld_eq ok.few _) (cf q3 (ct (decide_eq_true q4) (bnd hg' (bnd hg (ct (decide_eq_true q5) rfl)))))))))))), fun h => by cases h⟩
        · refine ⟨b, ct (decide_eq_true hj) (bnd hg (cf (decide_eq_false q1) (bnd hg (bnd (rMany_eq ok.blk) (cf (decide_eq_false q2) (bnd hg (bnd (rHeld_eq ok.few _) (cf q3 (ct (decide_eq_true q4) (bnd hg' (bnd hg (cf (decide_eq_false q5) e1)))))))))))), fun h j a b => ?_⟩
          by_cases ej : j = i
          · subst ej; exact ⟨by omega, by omega, fun _ => by omega⟩
          · exact hb h j (by omega) b
      · refine ⟨b, ct (decide_eq_true hj) (bnd hg (cf (decide_eq_false q1) (bnd hg (bnd (rMany_eq ok.blk) (cf (decide_eq_false q2) (bnd hg (bnd (rHeld_eq ok.few _) (cf q3 (cf (decide_eq_false q4) e1))))))))), fun h j a b => ?_⟩
        by_cases ej : j = i
        · subst ej; exact ⟨by omega, by omega, fun _ => by omega⟩
        · exact hb h j (by omega) b
theorem adj_srt {s : List Int} (h : ∀ j : Int, 0 < j → j < (s.length : Int) → gt s (j - 1) < gt s j) : Srt s := by
  have : ∀ (d : Nat) (i j : Int), 0 ≤ i → j - i = d + 1 → j < (s.length : Int) → gt s i < gt s j := by
    intro d
    induction d with
    | zero =>
      intro i j h0 h1 h2
      have := h j (by omega) h2
      rw [show i = j - 1 by omega]; exact this
    | succ d ih =>
      intro i j h0 h1 h2
      exact Int.lt_trans (ih i (j - 1) h0 (by omega) (by omega)) (h j (by omega) h2)
  intro i j h0 h1 h2
  exact this (j - i - 1).toNat i j h0 (by omega) h2
theorem Srt.srp {s : List Int} (h : Srt s) : Srp s := by
  refine List.pairwise_iff_getElem.2 fun i j hi hj hij => ?_
  have := h i j (by omega) (by omega) (by omega)
  have e1 := get?_gt (l := s) (i := i) (by omega) (by omega)
  have e2 := get?_gt (l := s) (i := j) (by omega) (by omega)
  rw [Int.toNat_natCast, List.getElem?_eq_getElem hi] at e1
  rw [Int.toNat_natCast, List.getElem?_eq_getElem hj] at e2
  rw [Option.some.inj e1, Option.some.inj e2]; exact this
theorem Fits11_eq {c : Conf} (hc : WConf c) (s : List Int) : ∃ b, lodgerref11_Fits c s = some b ∧ (b = true → OKc c ∧ many c.block ≤ 256 ∧ SOK c s) := by
  obtain ⟨r, e, hr⟩ := rMay_eq hc
  unfold lodgerref11_Fits
  cases r with
  | false => exact ⟨false, bnd e (cf rfl rfl), fun h => by cases h⟩
  | true =>
    have ok := hr rfl
    by_cases q1 : many c.block ≤ 256
    rotate_left
    · exact ⟨false, bnd e (ct rfl (bnd (rMany_eq ok.blk) (cf (decide_eq_false q1) rfl))), fun h => by cases h⟩
    by_cases q2 : (s.length : Int) ≤ 300
    rotate_left
    · exact ⟨false, bnd e (ct rfl (bnd (rMany_eq ok.blk) (ct (decide_eq_true q1) (cf (decide_eq_false q2) rfl)))), fun h => by cases h⟩
    obtain ⟨b, e1, hb⟩ := sMay_l c s ok (by omega) s.length big 0 (big_lt (by omega)) (by omega) (by omega) (by omega)
    have e1' : lodgerref09_May c s = some b := e1
    refine ⟨b, bnd e (ct rfl (bnd (rMany_eq ok.blk) (ct (decide_eq_true q1) (ct (decide_eq_true q2) (bnd e1' rfl))))), fun h => ⟨ok, q1, ?_, fun x hx => ?_⟩⟩
    · exact (adj_srt fun j a b => (hb h j (by omega) b).2.2 a).srp
    · obtain ⟨j, j0, j1, j2⟩ := mem_gt hx
      have := hb h j j0 j1
      rw [← j2]; exact ⟨this.1, this.2.1⟩
theorem CF_of {c : Conf} {calls : List Call} (hc : WConf c) (ok : OKc c) (few : many c.block ≤ 256) (hw : ∀ x, x ∈ calls → WCall x) {k : Int} (h : FewC calls k) : CF c calls :=
  ⟨ok, hc.block.base, few, fun x hx => ⟨(hw x hx).ask, (h.cs x hx).1, (hw x hx).answer.addr, by have := (h.cs x hx).2.1; omega, by have := (h.cs x hx).2.2; omega⟩⟩
theorem gt_app_r (l : List Int) (x : Int) : gt (l ++ [x]) l.length = x := by
  unfold gt; rw [List.getD_eq_getElem?_getD, Int.toNat_natCast, List.getElem?_append_right (Nat.le_refl _), Nat.sub_self]; rfl
theorem gt_app_l {l : List Int} (r : List Int) {k : Int} (h0 : 0 ≤ k) (h : k < (l.length : Int)) : gt (l ++ r) k = gt l k := by
  unfold gt; rw [List.getD_eq_getElem?_getD, List.getD_eq_getElem?_getD, List.getElem?_append_left (by omega)]
theorem last_eq {l : List Int} (h : 0 < (l.length : Int)) : l = l.take ((l.length : Int) - 1).toNat ++ [gt l ((l.length : Int) - 1)] := by
  have := (List.take_append_drop ((l.length : Int) - 1).toNat l).symm
  rw [drop_cons (by omega) (by omega), List.drop_eq_nil_of_le (show l.length ≤ ((l.length : Int) - 1 + 1).toNat by omega)] at this
  exact this
/-- Without the last one. -/
theorem less_iff {c : Conf} {calls : List Call} {s order : List Int} (hw : Wh calls order) (hr : (rp c calls order s).isSome = true) (h : 0 < (order.length : Int)) :
    (Wh calls (order.take ((order.length : Int) - 1).toNat) ∧ (rp c calls (order.take ((order.length : Int) - 1).toNat) s).isSome = true) ↔ tt calls (gt order ((order.length : Int) - 1)) < 0 := by
  have le := last_eq h
  have ll : ((order.take ((order.length : Int) - 1).toNat).length : Int) = (order.length : Int) - 1 := by rw [List.length_take]; omega
  obtain ⟨n0, n1⟩ := hw.inr _ (gt_mem (l := order) (i := (order.length : Int) - 1) (by omega) (by omega))
  have sub : ∀ x, x ∈ order.take ((order.length : Int) - 1).toNat → x ∈ order := fun x hx => List.mem_of_mem_take hx
  constructor
  · rintro ⟨w, _⟩
    by_cases q : tt calls (gt order ((order.length : Int) - 1)) < 0
    · exact q
    · have hm := w.all _ n0 n1 (by omega)
      obtain ⟨z, z0, z1, z2⟩ := (mem_take_gt (by omega) (by omega) _).1 hm
      exact absurd z2.symm (hw.beh ((order.length : Int) - 1) (by omega) (by omega) z z0 z1).1
  · intro q
    refine ⟨⟨fun x hx => hw.inr x (sub x hx), fun i i0 i1 k k0 k1 => ?_, fun j j0 j1 j2 => ?_⟩, ?_⟩
    · rw [gt_take i0 (by omega), gt_take k0 (by omega)]
      exact hw.beh i i0 (by omega) k k0 k1
    · have := hw.all j j0 j1 j2
      rw [le] at this
      rcases List.mem_append.1 this with h | h
      · exact h
      · rw [List.mem_singleton] at h
        rw [h] at j2; omega
    · rw [le, rp_app] at hr
      cases e : rp c calls (order.take ((order.length : Int) - 1).toNat) s with
      | some t => rfl
      | none => rw [e] at hr; cases hr
theorem twice {calls : List Call} {order : List Int} (h : 0 < (order.length : Int)) : ¬ Wh calls (order ++ [gt order 0]) := fun w => by
  have := (w.beh order.length (by omega) (by simp only [List.length_append, List.length_singleton]; omega) 0 (by omega) h).1
  rw [gt_app_r, gt_app_l _ (by omega) h] at this
  exact this rfl
theorem none_there {calls : List Call} {order : List Int} : ¬ Wh calls (order ++ [(calls.length : Int)]) := fun w => by
  have := (w.inr calls.length (by simp)).2
  omega
theorem turned {calls : List Call} {order : List Int} {i : Int} (h0 : 0 ≤ i) (h1 : i + 1 < (order.length : Int)) (h : 0 ≤ tt calls (gt order i) ∧ tt calls (gt order i) < ff calls (gt order (i + 1))) :
    ¬ Wh calls ((order.set i.toNat (gt order (i + 1))).set (i + 1).toNat (gt order i)) := fun w => by
  have e1 : order.set i.toNat (gt order (i + 1)) = pt order i (gt order (i + 1)) := by unfold pt; rw [if_pos h0]
  have e2 : (pt order i (gt order (i + 1))).set (i + 1).toNat (gt order i) = pt (pt order i (gt order (i + 1))) (i + 1) (gt order i) := by unfold pt; rw [if_pos h0, if_pos (show 0 ≤ i + 1 by omega)]
  rw [e1, e2] at w
  have := (w.beh (i + 1) (by omega) (by rw [pt_len, pt_len]; exact h1) i h0 (by omega)).2
  rw [gt_pt (by omega) (by rw [pt_len]; exact h1) (by omega), if_pos rfl, gt_pt h0 (by rw [pt_len]; omega) (by omega), if_neg (by omega), gt_pt h0 (by omega) h0, if_pos rfl] at this
  exact this h
theorem LT_l (calls : List Call) (order : List Int) (hr : InR calls order) (fewc : calls.length ≤ 100000) (few : order.length ≤ 30) : ∀ (d n : Nat) (i : Int), d < n → 0 ≤ i → ((order.length : Int) - 1 - i).toNat = d → i ≤ (order.length : Int) - 1 →
    lodgerlaw25_LinzTurned_l0 n calls order ((order.length : Int) - 1) i = some true := by
  intro d
  induction d with
  | zero =>
    intro n i hn h1 h2 h3
    obtain ⟨m, rfl⟩ : ∃ m, n = m + 1 := ⟨n - 1, by omega⟩
    rw [su0_lodgerlaw25_LinzTurned]
    unfold lodgerlaw25_LinzTurned_s0
    exact cf (decide_eq_false (by omega)) rfl
  | succ d ih =>
    intro n i hn h1 h2 h3
    obtain ⟨m, rfl⟩ : ∃ m, n = m + 1 := ⟨n - 1, by omega⟩
    have hmx : maxList = 137438953472 := rfl
    have hj : i < (order.length : Int) := by omega
    have hj' : i + 1 < (order.length : Int) := by omega
    have hg := geti_eq h1 hj
    have hg' := geti_eq (l := order) (i := i + 1) (by omega) hj'
    obtain ⟨a0, a1⟩ := hr _ (gt_mem h1 hj)
    obtain ⟨b0, b1⟩ := hr _ (gt_mem (l := order) (i := i + 1) (by omega) hj')
    obtain ⟨x, ex, _, tx, _⟩ := gC a0 a1
    obtain ⟨y, ey, _, _, fy⟩ := gC b0 b1
    have ih := ih m (i + 1) (by omega) (by omega) (by omega) (by omega)
    have hs : ((order.set i.toNat (gt order (i + 1))).length : Int) = order.length := by rw [List.length_set]
    obtain ⟨z, ez⟩ : ∃ z, (order.set i.toNat (gt order (i + 1)))[(i + 1).toNat]? = some z := ⟨_, List.getElem?_eq_getElem (by omega)⟩
    rw [su0_lodgerlaw25_LinzTurned]
    unfold lodgerlaw25_LinzTurned_s0
    rw [i64_in (i + 1) (by omega)]
    refine ct (decide_eq_true (by omega)) (ct (decide_eq_true (by omega)) (bnd hg' (ct (decide_eq_true ⟨h1, hj⟩) (bnd (get?_gt h1 hj) (bnd hg (ct (decide_eq_true ⟨by omega, by omega⟩) (bnd ez (bnd hg (bnd ex (bnd hg' (bnd ey ?_)))))))))))
    by_cases q1 : x.to_ ≥ 0
    rotate_left
    · exact cf (decide_eq_false q1) ih
    refine ct (decide_eq_true q1) ?_
    by_cases q2 : x.to_ < y.from_
    rotate_left
    · exact cf (decide_eq_false q2) ih
    refine ct (decide_eq_true q2) ?_
    obtain ⟨b, e, hb⟩ := Whole_eq (calls := calls) (order := (order.set i.toNat (gt order (i + 1))).set (i + 1).toNat (gt order i)) fewc (by rw [List.length_set, List.length_set]; omega)
    refine bnd e ?_
    cases b with
    | true => exact absurd (hb.1 rfl) (turned h1 hj' (by rw [tx, fy]; exact ⟨q1, q2⟩))
    | false => exact cf rfl ih
theorem pure_LinzTurned (c : Conf) (s : List Int) (calls : List Call) (order : List Int) (hc : WfV E (.st 1) c) (hs : WfV E (.slice i64) s) (hl : WfV E (.slice (.st 5)) calls) (ho : WfV E (.slice i64) order) : lodgerlaw25_LinzTurned c s calls order = some true := by
  have hc := v_conf hc
  have hmx : maxList = 137438953472 := rfl
  show lodgerlaw25_LinzTurned_e (lodgerlaw25_LinzTurned_l0 big) c s calls order = some true
  unfold lodgerlaw25_LinzTurned_e
  refine bnd awake25 (cf rfl ?_)
  obtain ⟨b, e, hb⟩ := Fits11_eq hc s
  refine bnd e ?_
  cases b with
  | false => exact ct rfl (bnd awake25 rfl)
  | true =>
  refine cf rfl ?_
  obtain ⟨ok, few, hs⟩ := hb rfl
  obtain ⟨b, e, hb⟩ := Few_eq calls (k := 20) (by omega)
  refine bnd e ?_
  cases b with
  | false => exact ct rfl (bnd awake25 rfl)
  | true =>
  refine cf rfl ?_
  have hf := hb rfl
  have fewc := hf.len
  have cf' := CF_of hc ok few (v_calls hl).2 hf
  by_cases q1 : (order.length : Int) > 30
  · exact ct (decide_eq_true q1) (bnd awake25 rfl)
  refine cf (decide_eq_false q1) ?_
  by_cases q2 : (order.length : Int) = 0
  · exact ct (beq_iff_eq.2 q2) (bnd awake25 rfl)
  refine cf (beq_eq_false_iff_ne.2 q2) ?_
  obtain ⟨b, e, hb⟩ := rGood_eq (order := order) cf' hs (by omega) (by omega)
  refine bnd e ?_
  cases b with
  | false => exact ct rfl (bnd awake25 rfl)
  | true =>
  refine cf rfl ?_
  obtain ⟨hw, hr⟩ := hb.1 rfl
  have h0 : 0 < (order.length : Int) := by omega
  rw [i64_in ((order.length : Int) - 1) (by omega)]
  refine ct ?_ ?_
  · unfold okBounds; rw [decide_eq_true ⟨Int.le_refl _, by omega, by omega⟩]; rfl
  obtain ⟨b1, e1, hb1⟩ := Good_eq (order := order.take ((order.length : Int) - 1).toNat) cf' hs (by omega) (by rw [List.length_take]; omega)
  refine bnd (show linz_Good c s calls ((order.take ((order.length : Int) - 1).toNat).drop (Int.toNat 0)) = some b1 from e1) ?_
  obtain ⟨n0, n1⟩ := hw.inr _ (gt_mem (l := order) (i := (order.length : Int) - 1) (by omega) (by omega))
  obtain ⟨x, ex, _, tx, _⟩ := gC n0 n1
  refine bnd (geti_eq (by omega) (by omega)) (bnd ex ?_)
  have hb1' : b1 = decide (x.to_ < 0) := by
    have := hb1.trans (less_iff hw hr h0)
    rw [tx] at this
    rw [Bool.eq_iff_iff, decide_eq_true_eq]; exact this
  refine cf (by rw [hb1']; simp) (ct (decide_eq_true (by omega)) (bnd (geti_eq (by omega) h0) (ct (decide_eq_true (by simp only [List.length_singleton]; omega)) ?_)))
  obtain ⟨b2, e2, hb2⟩ := Good_eq (order := order ++ [gt order 0]) cf' hs (by omega) (by simp only [List.length_append, List.length_singleton]; omega)
  refine bnd e2 ?_
  cases b2 with
  | true => exact absurd (hb2.1 rfl).1 (twice h0)
  | false =>
  refine cf rfl (ct (decide_eq_true (by omega)) (ct (decide_eq_true (by simp only [List.length_singleton]; omega)) ?_))
  obtain ⟨b3, e3, hb3⟩ := Whole_eq (calls := calls) (order := order ++ [(calls.length : Int)]) (by omega) (by simp only [List.length_append, List.length_singleton]; omega)
  refine bnd e3 ?_
  cases b3 with
  | true => exact absurd (hb3.1 rfl) none_there
  | false =>
  exact cf rfl (LT_l calls order hw.inr (by omega) (by omega) ((order.length : Int) - 1).toNat big 0 (big_lt (by omega)) (by omega) (by omega) (by omega))
end
end Go.Lv.Ld
