import Derived.Test.YtolndkmjmlgcpaaDoorP
import Derived.Test.YtolndkmjmlgcpaaDoorF
namespace Go.Lv.Ld
set_option linter.all false
open Go Go.Lv Go.IntWalk
set_option linter.unusedVariables false
set_option linter.unusedSimpArgs false
set_option maxRecDepth 100000
/-! Which events may be told. -/
def fitB (n : Int) : Bool := decide (n ≥ 0) && decide (n ≤ 1099511627776)
def errB (n : Int) : Bool := decide (n ≥ 0) && decide (n ≤ 12)
def evB (e : Event) : Bool := decide (e.kind ≥ 1) && (decide (e.kind ≤ 3) && (fitB e.client && (fitB e.ask && (fitB e.item && (fitB e.at_ && (errB e.answer.err && (decide ((List.length e.answer.addrs : Int) ≤ 300) && (decide ((List.length e.answer.errs : Int) ≤ 300) && e.answer.errs.all errB))))))))
theorem andb {c : Bool} {x : Option Bool} {y : Bool} (h : c = true → x = some y) : (bif c then x else some false) = some (c && y) := by
  cases c
  · rfl
  · exact h rfl
theorem fit_eq (n : Int) : tell_fit n = some (fitB n) := andb fun _ => rfl
theorem err_eq (n : Int) : tell_err n = some (errB n) := andb fun _ => rfl
theorem may1_eq (n : Int) : tell_may_1 n = some (not (errB n)) := by unfold tell_may_1; rw [err_eq]; rfl
theorem inc {i : Int} (h0 : 0 ≤ i) (h1 : i < 4611686018427387904) : IntKind.wrap .i64 (i + 1) = i + 1 := by simp (disch := omega) only [i64_in, u64_in, u32_in, u8_in, u16_in, Option.bind_some, Option.bind_none, Option.bind_eq_bind, ↓Bool.cond_eq_ite, decide_eq_true_eq, beq_iff_eq, bne_iff_ne, ne_eq, Bool.not_eq_true', Bool.not_eq_true, Bool.not_eq_false', Bool.not_not, decide_eq_false_iff_not, if_pos, if_neg, reduceIte, not_true_eq_false, not_false_eq_true, Bool.false_eq_true, Bool.true_eq_false, reduceCtorEq]
theorem drop_at {α : Type} {l : List α} {i : Int} (h0 : 0 ≤ i) (h : i < l.length) : l.drop i.toNat = (l[i.toNat]'(by omega)) :: l.drop (i + 1).toNat := by
  have : (i + 1).toNat = i.toNat + 1 := by omega
  rw [this]
  exact List.drop_eq_getElem_cons (by omega)
theorem drop_end {α : Type} {l : List α} {i : Int} (h0 : 0 ≤ i) (h : ¬ i < l.length) : l.drop i.toNat = [] := List.drop_eq_nil_of_le (by omega)
theorem if63_l (l : List Int) (hl : l.length ≤ 1000000000) : ∀ (d n : Nat) (i : Int), d < n → 0 ≤ i → (l.length : Int) - i ≤ d → i ≤ l.length → ∃ r, slices_IndexFunc_63_l0 n l (l.length : Int) i = some r ∧ decide (r ≥ 0) = !((l.drop i.toNat).all errB)
  | d, n + 1, i, hn, h0, hd, hi => by
    rw [su0_slices_IndexFunc_63]
    unfold slices_IndexFunc_63_s0
    by_cases hlt : i < l.length
    · rw [ct (decide_eq_true hlt) rfl, bnd (geti_at h0 hlt) rfl, bnd (may1_eq _) rfl, drop_at h0 hlt, List.all_cons]
      cases he : errB (l[i.toNat]'(by omega)) with
      | false => exact ⟨i, rfl, by simp; omega⟩
      | true =>
        rw [inc h0 (by omega)]
        cases d with
        | zero => omega
        | succ d =>
          obtain ⟨r, h1, h2⟩ := if63_l l hl d n (i + 1) (by omega) (by omega) (by omega) (by omega)
          exact ⟨r, h1, by rw [h2]; simp⟩
    · rw [cf (decide_eq_false hlt) rfl, drop_end h0 hlt]
      exact ⟨-1, rfl, rfl⟩
theorem if63 (l : List Int) (hl : l.length ≤ 1000000000) : ∃ r, slices_IndexFunc_63 l = some r ∧ decide (r ≥ 0) = !(l.all errB) :=
  if63_l l hl l.length big 0 (by unfold big; omega) (by omega) (by omega) (by omega)
theorem may_eq (e : Event) : tell_may e = some (evB e) := by
  unfold tell_may evB
  refine andb fun _ => andb fun _ => bnd (fit_eq _) (andb fun _ => bnd (fit_eq _) (andb fun _ => bnd (fit_eq _) (andb fun _ => bnd (fit_eq _) (andb fun _ => bnd (err_eq _) (andb fun _ => andb fun _ => andb fun h => ?_)))))
  obtain ⟨r, h1, h2⟩ := if63 e.answer.errs (by have := of_decide_eq_true h; omega)
  rw [bnd h1 rfl, h2]
  simp
theorem May1_eq (e : Event) : tell_May_1 e = some (not (evB e)) := by unfold tell_May_1; rw [may_eq]; rfl
theorem if45_l (l : List Event) (hl : l.length ≤ 1000000000) : ∀ (d n : Nat) (i : Int), d < n → 0 ≤ i → (l.length : Int) - i ≤ d → i ≤ l.length → ∃ r, slices_IndexFunc_45_l0 n l (l.length : Int) i = some r ∧ decide (r ≥ 0) = !((l.drop i.toNat).all evB)
  | d, n + 1, i, hn, h0, hd, hi => by
    rw [su0_slices_IndexFunc_45]
    unfold slices_IndexFunc_45_s0
    by_cases hlt : i < l.length
    · rw [ct (decide_eq_true hlt) rfl, bnd (geti_at h0 hlt) rfl, bnd (May1_eq _) rfl, drop_at h0 hlt, List.all_cons]
      cases he : evB (l[i.toNat]'(by omega)) with
      | false => exact ⟨i, rfl, by simp; omega⟩
      | true =>
        rw [inc h0 (by omega)]
        cases d with
        | zero => omega
        | succ d =>
          obtain ⟨r, h1, h2⟩ := if45_l l hl d n (i + 1) (by omega) (by omega) (by omega) (by omega)
          exact ⟨r, h1, by rw [h2]; simp⟩
    · rw [cf (decide_eq_false hlt) rfl, drop_end h0 hlt]
      exact ⟨-1, rfl, rfl⟩
theorem May_all (l : List Event) (hl : l.length ≤ 1000000000) : tell_May l = some (l.all evB) := by
  unfold tell_May
  obtain ⟨r, h1, h2⟩ : ∃ r, slices_IndexFunc_45 l = some r ∧ decide (r ≥ 0) = !(l.all evB) := if45_l l hl l.length big 0 (by unfold big; omega) (by omega) (by omega) (by omega)
  rw [bnd h1 rfl, h2]
  simp
/-! The document's. -/
theorem rfit_eq (n : Int) : lodgerref28_fit n = some (fitB n) := andb fun _ => rfl
theorem rMay_in (l : List Event) (m : Answer) (hm : m.errs.length ≤ 300) (s3 : Int) : ∀ (d n : Nat) (i : Int), d < n → 0 ≤ i → (m.errs.length : Int) - i ≤ d → i ≤ m.errs.length → ∃ n', n ≤ n' + d + 1 ∧ n' < n ∧ lodgerref28_May_l1 n l s3 i m = bif (m.errs.drop i.toNat).all errB then lodgerref28_May_l0 n' l (IntKind.wrap .i64 (s3 + 1)) else some false
  | d, n + 1, i, hn, h0, hd, hi => by
    rw [su1_lodgerref28_May]
    unfold lodgerref28_May_s1
    by_cases hlt : i < m.errs.length
    · have hg := geti_at h0 hlt
      rw [ct (decide_eq_true hlt) rfl, bnd hg rfl, drop_at h0 hlt, List.all_cons]
      have hE : errB (m.errs[i.toNat]'(by omega)) = (decide (m.errs[i.toNat]'(by omega) ≥ 0) && decide (m.errs[i.toNat]'(by omega) ≤ 12)) := rfl
      rw [bnd hg rfl]
      generalize m.errs[i.toNat]'(by omega) = x at hE
      by_cases hx : x < 0
      · refine ⟨n, by omega, by omega, ?_⟩
        rw [ct (decide_eq_true hx) rfl, hE, decide_eq_false (by omega : ¬ x ≥ 0)]; rfl
      · rw [cf (decide_eq_false hx) rfl]
        by_cases hy : x > 12
        · refine ⟨n, by omega, by omega, ?_⟩
          rw [ct (decide_eq_true hy) rfl, hE, decide_eq_false (by omega : ¬ x ≤ 12), Bool.and_false]; rfl
        · rw [cf (decide_eq_false hy) rfl, inc h0 (by omega)]
          cases d with
          | zero => omega
          | succ d =>
            obtain ⟨n', h1, h2, h3⟩ := rMay_in l m hm s3 d n (i + 1) (by omega) (by omega) (by omega) (by omega)
            refine ⟨n', by omega, by omega, ?_⟩
            rw [h3, hE, decide_eq_true (by omega : x ≥ 0), decide_eq_true (by omega : x ≤ 12)]; rfl
    · refine ⟨n, by omega, by omega, ?_⟩
      rw [cf (decide_eq_false hlt) rfl, drop_end h0 hlt]
      rfl
theorem orb {c : Bool} {x : Option Bool} {y z : Bool} (hc : c = !z) (h : c = false → x = some y) : (bif c then some false else x) = some (z && y) := by
  subst hc
  cases z
  · rfl
  · exact h rfl
theorem dnot {p q : Prop} [Decidable p] [Decidable q] (h : p ↔ ¬ q) : decide p = !(decide q) := by
  by_cases hq : q
  · rw [decide_eq_true hq, decide_eq_false (fun x => h.1 x hq)]; rfl
  · rw [decide_eq_false hq, decide_eq_true (h.2 hq)]; rfl
theorem rMay_l (l : List Event) (hl : l.length ≤ 1000000000) : ∀ (d n : Nat) (i : Int), d * 302 < n → 0 ≤ i → (l.length : Int) - i ≤ d → i ≤ l.length → lodgerref28_May_l0 n l i = some ((l.drop i.toNat).all evB)
  | d, n + 1, i, hn, h0, hd, hi => by
    rw [su0_lodgerref28_May]
    unfold lodgerref28_May_s0
    by_cases hlt : i < l.length
    · rw [ct (decide_eq_true hlt) rfl, bnd (geti_at h0 hlt) rfl, drop_at h0 hlt, List.all_cons]
      generalize l[i.toNat]'(by omega) = e
      have hev : evB e = (decide (e.kind ≥ 1) && (decide (e.kind ≤ 3) && (fitB e.client && (fitB e.ask && (fitB e.item && (fitB e.at_ && (decide (e.answer.err ≥ 0) && (decide (e.answer.err ≤ 12) && (decide ((List.length e.answer.addrs : Int) ≤ 300) && (decide ((List.length e.answer.errs : Int) ≤ 300) && e.answer.errs.all errB)))))))))) := by
        unfold evB
        rw [show errB e.answer.err = (decide (e.answer.err ≥ 0) && decide (e.answer.err ≤ 12)) from rfl, Bool.and_assoc (decide (e.answer.err ≥ 0))]
      rw [hev]
      simp only [Bool.and_assoc]
      refine orb (dnot (by omega)) fun _ => orb (dnot (by omega)) fun _ => bnd (rfit_eq _) (orb rfl fun _ => bnd (rfit_eq _) (orb rfl fun _ => bnd (rfit_eq _) (orb rfl fun _ => bnd (rfit_eq _) (orb rfl fun _ => orb (dnot (by omega)) fun _ => orb (dnot (by omega)) fun _ => orb (dnot (by omega)) fun _ => orb (dnot (by omega)) fun h => ?_))))
      have he : e.answer.errs.length ≤ 300 := by have := of_decide_eq_false h; omega
      cases d with
      | zero => omega
      | succ d =>
        obtain ⟨n', h1, h2, h3⟩ := rMay_in l e.answer he i e.answer.errs.length n 0 (by omega) (by omega) (by omega) (by omega)
        rw [h3, inc h0 (by omega)]
        cases hA : (e.answer.errs.drop (0 : Int).toNat).all errB with
        | false =>
          have : e.answer.errs.all errB = false := hA
          rw [this]; rfl
        | true =>
          have : e.answer.errs.all errB = true := hA
          rw [this, cond_true, Bool.true_and]
          exact rMay_l l hl d n' (i + 1) (by omega) (by omega) (by omega) (by omega)
    · rw [cf (decide_eq_false hlt) rfl, drop_end h0 hlt]
      rfl
theorem rMay_all (l : List Event) (hl : l.length ≤ 1000000000) : lodgerref28_May l = some (l.all evB) :=
  rMay_l l hl l.length big 0 (by unfold big; omega) (by omega) (by omega) (by omega)
/-! Few events. -/
theorem Few_l (l : List Event) : ∀ (d n : Nat) (s i : Int), d < n → 0 ≤ i → 200 - i ≤ d → i ≤ 200 → ∃ r, lodgerref28_Few_l0 n l s i = some r ∧ (r = true → l.length ≤ 150)
  | d, n + 1, s, i, hn, h0, hd, hi => by
    have fin : ∃ r, (bif (decide ((List.length l : Int) ≤ 150)) then some (decide (s ≤ 1000)) else some false) = some r ∧ (r = true → l.length ≤ 150) := by
      by_cases h : (List.length l : Int) ≤ 150
      · exact ⟨_, by rw [ct (decide_eq_true h) rfl], fun _ => by omega⟩
      · exact ⟨_, by rw [cf (decide_eq_false h) rfl], fun q => by cases q⟩
    rw [su0_lodgerref28_Few]
    unfold lodgerref28_Few_s0
    by_cases hlt : i < l.length
    · rw [ct (decide_eq_true hlt) rfl]
      by_cases h2 : i < 200
      · rw [ct (decide_eq_true h2) rfl, bnd (geti_at h0 hlt) rfl, bnd (geti_at h0 hlt) rfl, inc h0 (by omega)]
        cases d with
        | zero => omega
        | succ d => exact Few_l l d n _ (i + 1) (by omega) (by omega) (by omega) (by omega)
      · rw [cf (decide_eq_false h2) rfl]; exact fin
    · rw [cf (decide_eq_false hlt) rfl]; exact fin
theorem Few_some (l : List Event) : ∃ r, lodgerref28_Few l = some r ∧ (r = true → l.length ≤ 150) :=
  Few_l l 200 big 0 0 (by unfold big; omega) (by omega) (by omega) (by omega)
end Go.Lv.Ld
namespace Go.Lv.Ld
set_option linter.all false
open Go Go.Lv Go.IntWalk
set_option linter.unusedVariables false
set_option linter.unusedSimpArgs false
set_option maxRecDepth 100000
/-! An event's line. -/
def sp (ws : List (List UInt8)) : List UInt8 := (ws.map fun w => 32 :: w).flatten
theorem sp_nil : sp [] = [] := rfl
theorem sp_cons (w : List UInt8) (ws : List (List UInt8)) : sp (w :: ws) = 32 :: (w ++ sp ws) := rfl
theorem join_sp : ∀ (ws : List (List UInt8)) (w : List UInt8), Lib.join (w :: ws) [32] = w ++ sp ws
  | [], w => by simp [Lib.join, List.intercalate, sp]
  | x :: r, w => by
    have ih := join_sp r x
    unfold Lib.join at ih ⊢
    rw [sp_cons, ← ih]
    simp [List.intercalate, List.intersperse]
def N (x : Int) : List UInt8 := D x.toNat
def T (x : Int) : List UInt8 := tx x.toNat
def yn (b : Bool) : List UInt8 := bif b then [121, 101, 115] else [110, 111]
def AD : List UInt8 := [97, 100, 100, 114, 115]
def ER : List UInt8 := [101, 114, 114, 115]
def lw (e : Event) : List (List UInt8) := [N e.client, N e.ask, N e.item, N e.at_, N e.answer.err, T e.answer.addr, yn e.answer.used, AD] ++ (e.answer.addrs.map T ++ ER :: e.answer.errs.map N)
def ln (e : Event) : List UInt8 := N e.kind ++ sp (lw e)
def line (e : Event) : List UInt8 := ln e ++ [10]
/-- Its addresses are such. -/
def UA (e : Event) : Prop := U32 e.answer.addr ∧ ∀ a, a ∈ e.answer.addrs → U32 a
def F40 (x : Int) : Prop := 0 ≤ x ∧ x ≤ 1099511627776
theorem F12 {x : Int} (h : 0 ≤ x ∧ x ≤ 12) : F40 x := ⟨h.1, by omega⟩
theorem ev_parts {e : Event} (h : evB e = true) : (1 ≤ e.kind ∧ e.kind ≤ 3) ∧ F40 e.client ∧ F40 e.ask ∧ F40 e.item ∧ F40 e.at_ ∧ (0 ≤ e.answer.err ∧ e.answer.err ≤ 12) ∧ e.answer.addrs.length ≤ 300 ∧ e.answer.errs.length ≤ 300 ∧ ∀ x, x ∈ e.answer.errs → 0 ≤ x ∧ x ≤ 12 := by
  unfold evB fitB errB at h
  simp only [Bool.and_eq_true, decide_eq_true_eq, List.all_eq_true] at h
  obtain ⟨h1, h2, h3, h4, h5, h6, h7, h8, h9, h10⟩ := h
  exact ⟨⟨by omega, by omega⟩, ⟨by omega, by omega⟩, ⟨by omega, by omega⟩, ⟨by omega, by omega⟩, ⟨by omega, by omega⟩, ⟨by omega, by omega⟩, by omega, by omega, fun x hx => by have := h10 x hx; omega⟩
theorem F_kind {e : Event} (h : evB e = true) : F40 e.kind := by
  have := (ev_parts h).1
  unfold F40; omega
theorem Itoa_N {x : Int} (h : F40 x) : strconv_Itoa x = some (N x) := Itoa_eq h.1 (by unfold F40 at h; omega)
theorem D_lenk : ∀ (k u : Nat), u < 10 ^ (k + 1) → (D u).length ≤ k + 1
  | 0, u, h => by rw [D_small (by simpa using h)]; simp
  | k + 1, u, h => by
    by_cases h1 : u < 10
    · rw [D_small h1]; simp
    · have := D_lenk k (u / 10) (by rw [Nat.pow_succ] at h; omega)
      rw [D_big (by omega), List.length_append]
      simp; omega
theorem N_len {x : Int} (h : F40 x) : (N x).length ≤ 15 := by
  unfold F40 at h
  have := D_lenk 12 x.toNat (by omega)
  unfold N; omega
theorem T_len {x : Int} (h : U32 x) : (T x).length ≤ 15 := by
  unfold U32 at h
  have := (tx_len (a := x.toNat) (by omega)).1
  unfold T; omega
theorem yn_len (b : Bool) : (yn b).length ≤ 15 := by cases b <;> decide
theorem sp_len : ∀ (ws : List (List UInt8)), (∀ w ∈ ws, w.length ≤ 15) → (sp ws).length ≤ 16 * ws.length
  | [], _ => by simp [sp]
  | w :: ws, h => by
    have h1 := h w (by simp)
    have h2 := sp_len ws fun w hw => h w (by simp [hw])
    rw [sp_cons, List.length_cons, List.length_append, List.length_cons]
    omega
theorem lw_len {e : Event} (h : evB e = true) (hu : UA e) : ∀ w ∈ lw e, w.length ≤ 15 := by
  obtain ⟨_, h1, h2, h3, h4, h5, h6, h7, h8⟩ := ev_parts h
  intro w hw
  unfold lw at hw
  simp only [List.mem_append, List.mem_cons, List.mem_map, List.not_mem_nil, or_false] at hw
  rcases hw with (rfl | rfl | rfl | rfl | rfl | rfl | rfl | rfl) | (⟨a, ha, rfl⟩ | (rfl | ⟨x, hx, rfl⟩))
  · exact N_len h1
  · exact N_len h2
  · exact N_len h3
  · exact N_len h4
  · exact N_len (F12 h5)
  · exact T_len hu.1
  · exact yn_len _
  · decide
  · exact T_len (hu.2 a ha)
  · decide
  · exact N_len (F12 (h8 x hx))
theorem ln_len {e : Event} (h : evB e = true) (hu : UA e) : (ln e).length ≤ 10000 := by
  have h1 := sp_len (lw e) (lw_len h hu)
  have h2 := N_len (F_kind h)
  obtain ⟨_, _, _, _, _, _, h6, h7, _⟩ := ev_parts h
  have h3 : (lw e).length = 9 + e.answer.addrs.length + e.answer.errs.length := by
    unfold lw; simp; omega
  unfold ln
  rw [List.length_append]
  omega
theorem line_l2 (xs : List Int) (hx : ∀ x ∈ xs, F40 x) (W : List (List UInt8)) (hW : W.length ≤ 1000000) (hJ : (Lib.join W [32]).length ≤ 1000000000) (hl : xs.length ≤ 1000000) :
    ∀ (n : Nat) (i : Int) (m2 : List (List UInt8)), (xs.length : Int) - i < n → 0 ≤ i → i ≤ xs.length → m2 ++ (xs.drop i.toNat).map N = W → tell_line_l2 n xs (xs.length : Int) i m2 = some (Lib.join W [32] ++ [10])
  | 0, i, m2, hn, h0, hi, hw => by omega
  | n + 1, i, m2, hn, h0, hi, hw => by
    rw [su2_tell_line]
    unfold tell_line_s2
    have hm := congrArg List.length hw
    rw [List.length_append] at hm
    by_cases hlt : i < xs.length
    · rw [ct (decide_eq_true hlt) rfl, bnd (geti_at h0 hlt) rfl, bnd (Itoa_N (hx _ (List.getElem_mem _))) rfl, ct (decide_eq_true (by unfold maxList; simp; omega)) rfl, inc h0 (by omega)]
      refine line_l2 xs hx W hW hJ hl n (i + 1) _ (by omega) (by omega) (by omega) ?_
      rw [← hw, drop_at h0 hlt]
      simp
    · rw [drop_end h0 hlt, List.map_nil, List.append_nil] at hw
      subst hw
      rw [cf (decide_eq_false hlt) rfl]
      refine bnd (show strings_Join m2 [32] = some (Lib.join m2 [32]) from ?_) (ct (decide_eq_true ?_) rfl)
      · unfold strings_Join; rw [if_pos ⟨by omega, by omega⟩]
      · simp; omega
theorem line_l1 (m : Answer) (hx : ∀ x ∈ m.errs, F40 x) (W : List (List UInt8)) (hW : W.length ≤ 1000000) (hJ : (Lib.join W [32]).length ≤ 1000000000) (hl : m.errs.length ≤ 1000000) (ads : List Int) (ha : ∀ a ∈ ads, U32 a) (hal : ads.length ≤ 1000000) :
    ∀ (n : Nat) (i : Int) (m2 : List (List UInt8)), (ads.length : Int) - i + m.errs.length + 1 < n → 0 ≤ i → i ≤ ads.length → m2 ++ ((ads.drop i.toNat).map T ++ ER :: m.errs.map N) = W → tell_line_l1 n ads (ads.length : Int) i m m2 = some (Lib.join W [32] ++ [10])
  | 0, i, m2, hn, h0, hi, hw => by omega
  | n + 1, i, m2, hn, h0, hi, hw => by
    rw [su1_tell_line]
    unfold tell_line_s1
    have hm := congrArg List.length hw
    rw [List.length_append, List.length_append, List.length_cons] at hm
    by_cases hlt : i < ads.length
    · rw [ct (decide_eq_true hlt) rfl, bnd (geti_at h0 hlt) rfl, bnd (Text_eq (ha _ (List.getElem_mem _))) rfl, ct (decide_eq_true (by unfold maxList; simp; omega)) rfl, inc h0 (by omega)]
      refine line_l1 m hx W hW hJ hl ads ha hal n (i + 1) _ (by omega) (by omega) (by omega) ?_
      rw [← hw, drop_at h0 hlt]
      simp [T]
    · rw [drop_end h0 hlt, List.map_nil, List.nil_append] at hw
      rw [cf (decide_eq_false hlt) rfl, ct (decide_eq_true (by unfold maxList; simp; omega)) rfl]
      refine line_l2 m.errs hx W hW hJ hl n 0 _ (by omega) (by omega) (by omega) ?_
      rw [← hw]
      simp [ER]
theorem line_l0 (m : Answer) (hx : ∀ x ∈ m.errs, F40 x) (W : List (List UInt8)) (hW : W.length ≤ 1000000) (hJ : (Lib.join W [32]).length ≤ 1000000000) (hl : m.errs.length ≤ 1000000) (ha : ∀ a ∈ m.addrs, U32 a) (hu : U32 m.addr) (hal : m.addrs.length ≤ 1000000) (ns : List Int) (hns : ∀ x ∈ ns, F40 x) (hnl : ns.length ≤ 1000000) :
    ∀ (n : Nat) (i : Int) (m2 : List (List UInt8)), (ns.length : Int) - i + m.addrs.length + m.errs.length + 2 < n → 0 ≤ i → i ≤ ns.length → m2 ++ ((ns.drop i.toNat).map N ++ ([T m.addr, yn m.used, AD] ++ (m.addrs.map T ++ ER :: m.errs.map N))) = W → tell_line_l0 n ns (ns.length : Int) i m m2 = some (Lib.join W [32] ++ [10])
  | 0, i, m2, hn, h0, hi, hw => by omega
  | n + 1, i, m2, hn, h0, hi, hw => by
    rw [su0_tell_line]
    unfold tell_line_s0
    have hm := congrArg List.length hw
    rw [List.length_append, List.length_append, List.length_append] at hm
    simp only [List.length_cons, List.length_nil] at hm
    by_cases hlt : i < ns.length
    · rw [ct (decide_eq_true hlt) rfl, bnd (geti_at h0 hlt) rfl, bnd (Itoa_N (hns _ (List.getElem_mem _))) rfl, ct (decide_eq_true (by unfold maxList; simp; omega)) rfl, inc h0 (by omega)]
      refine line_l0 m hx W hW hJ hl ha hu hal ns hns hnl n (i + 1) _ (by omega) (by omega) (by omega) ?_
      rw [← hw, drop_at h0 hlt]
      simp
    · rw [drop_end h0 hlt, List.map_nil, List.nil_append] at hw
      rw [cf (decide_eq_false hlt) rfl]
      cases hub : m.used with
      | true =>
        rw [ct rfl rfl, bnd (Text_eq hu) rfl, ct (decide_eq_true (by unfold maxList; simp; omega)) rfl]
        refine line_l1 m hx W hW hJ hl m.addrs ha hal n 0 _ (by omega) (by omega) (by omega) ?_
        rw [← hw, hub]
        simp [T, yn, AD]
      | false =>
        rw [cf rfl rfl, bnd (Text_eq hu) rfl, ct (decide_eq_true (by unfold maxList; simp; omega)) rfl]
        refine line_l1 m hx W hW hJ hl m.addrs ha hal n 0 _ (by omega) (by omega) (by omega) ?_
        rw [← hw, hub]
        simp [T, yn, AD]
theorem line_eq {e : Event} (h : evB e = true) (hu : UA e) : tell_line e = some (line e) := by
  have hL := ln_len h hu
  have hk := F_kind h
  obtain ⟨_, h1, h2, h3, h4, h5, h6, h7, h8⟩ := ev_parts h
  have hj : Lib.join (N e.kind :: lw e) [32] = ln e := join_sp _ _
  have hw : (N e.kind :: lw e).length ≤ 1000000 := by unfold lw; simp; omega
  unfold line
  rw [← hj]
  refine line_l0 e.answer (fun x hx => F12 (h8 x hx)) _ hw (by rw [hj]; omega) (by omega) hu.2 hu.1 (by omega) [e.kind, e.client, e.ask, e.item, e.at_, e.answer.err] ?_ (by simp) big 0 [] ?_ (by omega) (by simp) ?_
  · intro x hx
    simp only [List.mem_cons, List.not_mem_nil, or_false] at hx
    rcases hx with rfl | rfl | rfl | rfl | rfl | rfl
    · exact hk
    · exact h1
    · exact h2
    · exact h3
    · exact h4
    · exact F12 h5
  · unfold big; simp; omega
  · simp [lw]
/-! A log's text. -/
def cat (l : List Event) : List UInt8 := (l.map line).flatten
theorem cat_nil : cat [] = [] := rfl
theorem cat_cons (e : Event) (l : List Event) : cat (e :: l) = line e ++ cat l := rfl
theorem cat_app (a b : List Event) : cat (a ++ b) = cat a ++ cat b := by simp [cat]
def GL (l : List Event) : Prop := ∀ e ∈ l, evB e = true ∧ UA e
theorem GL_tail {e : Event} {l : List Event} (h : GL (e :: l)) : GL l := fun x hx => h x (by simp [hx])
theorem GL_app {a b : List Event} (ha : GL a) (hb : GL b) : GL (a ++ b) := fun x hx => (List.mem_append.1 hx).elim (ha x) (hb x)
theorem GL_of {l : List Event} (h : l.all evB = true) (hu : ∀ e ∈ l, UA e) : GL l := fun e he => ⟨List.all_eq_true.1 h e he, hu e he⟩
theorem GL_all {l : List Event} (h : GL l) : l.all evB = true := List.all_eq_true.2 fun e he => (h e he).1
theorem cat_len : ∀ {l : List Event}, GL l → (cat l).length ≤ 10001 * l.length ∧ l.length ≤ (cat l).length
  | [], _ => by simp [cat]
  | e :: l, h => by
    have h1 := cat_len (GL_tail h)
    have h2 := ln_len (h e (by simp)).1 (h e (by simp)).2
    rw [cat_cons, List.length_append, List.length_cons, line, List.length_append, List.length_cons, List.length_nil]
    omega
theorem tcat_eq : ∀ {l : List Event}, GL l → tell_cat l = some (cat l)
  | [], _ => rfl
  | e :: l, h => by
    unfold tell_cat
    rw [line_eq (h e (by simp)).1 (h e (by simp)).2, tcat_eq (GL_tail h)]
    rfl
theorem Put_good {l : List Event} (hl : l.length ≤ 1000000) (h : GL l) : tell_Put l = some (cat l, 0) := by
  unfold tell_Put
  have hc := cat_len h
  rw [May_all l (by omega), Option.bind_some, GL_all h]
  refine cf rfl (bnd (tcat_eq h) ?_)
  show (if _ then _ else _) = _
  rw [if_pos ⟨by omega, by omega⟩]
theorem Put_bad {l : List Event} (hl : l.length ≤ 1000000) (h : l.all evB = false) : tell_Put l = some ([], 2) := by
  unfold tell_Put
  rw [May_all l (by omega), Option.bind_some, h]
  rfl
end Go.Lv.Ld
namespace Go.Lv.Ld
set_option linter.all false
open Go Go.Lv Go.IntWalk
set_option linter.unusedVariables false
set_option linter.unusedSimpArgs false
set_option maxRecDepth 100000
/-! The document's digits, and its text of a log. -/
theorem rdec_l : ∀ (f u : Nat) (s : List UInt8), u < f → u ≤ 10000000000000000 → s.length + u ≤ 100000000000000000 → lodgerref28_dec_l0 f (u : Int) s = some (D u ++ s)
  | f + 1, u, s, hf, hu, hs => by
    rw [su0_lodgerref28_dec]
    unfold lodgerref28_dec_s0
    have e1 : Int.tmod (u : Int) 10 = ((u % 10 : Nat) : Int) := rfl
    have e2 : Int.tdiv (u : Int) 10 = ((u / 10 : Nat) : Int) := rfl
    have e3 : IntKind.wrap .i64 ((u / 10 : Nat) : Int) = ((u / 10 : Nat) : Int) := i64_in _ ⟨by omega, by omega⟩
    rw [e1, e2, e3, dig1 (by omega) (by omega), Int.toNat_natCast]
    rw [ct (decide_eq_true (by simp; omega)) rfl]
    by_cases h : u < 10
    · rw [ct (by rw [beq_iff_eq]; omega) rfl, D_small h]
      have : u % 10 = u := by omega
      rw [this]
    · rw [cf (by rw [beq_eq_false_iff_ne]; omega) rfl, rdec_l f (u / 10) _ (by omega) (by omega) (by simp; omega), D_big (u := u) (by omega), List.append_assoc]
theorem rdec_N {x : Int} (h : F40 x) : lodgerref28_dec x = some (N x) := by
  unfold F40 at h
  have h1 : lodgerref28_dec x = lodgerref28_dec_l0 big x [] := rfl
  have h2 : x = ((x.toNat : Nat) : Int) := by omega
  rw [h1, h2, rdec_l big x.toNat [] (by unfold big; omega) (by omega) (by simp; omega), List.append_nil]
  rfl
theorem rPut_l2 (s0 : List Event) (s4 : List UInt8) (s5 : Int) (m : Answer) (hx : ∀ x ∈ m.errs, F40 x) (hl : m.errs.length ≤ 1000) (W : List UInt8) (h4 : s4.length ≤ 100000000000000) (hW : W.length ≤ 1000000) (F : Nat) (R : Option (List UInt8 × Int))
    (hk : ∀ n', F ≤ n' → lodgerref28_Put_l0 n' s0 ((s4 ++ W) ++ [10]) (IntKind.wrap .i64 (s5 + 1)) = R) :
    ∀ (n : Nat) (i : Int) (t : List UInt8), F + ((m.errs.length : Int) - i) + 1 ≤ n → 0 ≤ i → i ≤ m.errs.length → t ++ sp ((m.errs.drop i.toNat).map N) = W → lodgerref28_Put_l2 n s0 s4 s5 t i m = R
  | 0, i, t, hn, h0, hi, hw => by omega
  | n + 1, i, t, hn, h0, hi, hw => by
    rw [su2_lodgerref28_Put]
    unfold lodgerref28_Put_s2
    have hm := congrArg List.length hw
    rw [List.length_append] at hm
    by_cases hlt : i < m.errs.length
    · rw [drop_at h0 hlt, List.map_cons, sp_cons, List.length_cons, List.length_append] at hm
      rw [ct (decide_eq_true hlt) rfl, ct (decide_eq_true (by simp; omega)) rfl, bnd (geti_at h0 hlt) rfl, bnd (rdec_N (hx _ (List.getElem_mem _))) rfl, ct (decide_eq_true (by simp; omega)) rfl, inc h0 (by omega)]
      refine rPut_l2 s0 s4 s5 m hx hl W h4 hW F R hk n (i + 1) _ (by omega) (by omega) (by omega) ?_
      rw [← hw, drop_at h0 hlt, List.map_cons, sp_cons]
      simp
    · rw [drop_end h0 hlt, List.map_nil, sp_nil, List.append_nil] at hw
      subst hw
      rw [cf (decide_eq_false hlt) rfl, ct (decide_eq_true (by omega)) rfl, ct (decide_eq_true (by simp; omega)) rfl]
      exact hk n (by omega)
theorem rPut_l1 (s0 : List Event) (s4 : List UInt8) (s5 : Int) (m : Answer) (hx : ∀ x ∈ m.errs, F40 x) (hl : m.errs.length ≤ 1000) (ha : ∀ a ∈ m.addrs, U32 a) (hal : m.addrs.length ≤ 1000) (W : List UInt8) (h4 : s4.length ≤ 100000000000000) (hW : W.length ≤ 1000000) (F : Nat) (R : Option (List UInt8 × Int))
    (hk : ∀ n', F ≤ n' → lodgerref28_Put_l0 n' s0 ((s4 ++ W) ++ [10]) (IntKind.wrap .i64 (s5 + 1)) = R) :
    ∀ (n : Nat) (i : Int) (t : List UInt8), F + ((m.addrs.length : Int) - i) + m.errs.length + 2 ≤ n → 0 ≤ i → i ≤ m.addrs.length → t ++ sp ((m.addrs.drop i.toNat).map T ++ ER :: m.errs.map N) = W → lodgerref28_Put_l1 n s0 s4 s5 t i m = R
  | 0, i, t, hn, h0, hi, hw => by omega
  | n + 1, i, t, hn, h0, hi, hw => by
    rw [su1_lodgerref28_Put]
    unfold lodgerref28_Put_s1
    have hm := congrArg List.length hw
    rw [List.length_append] at hm
    by_cases hlt : i < m.addrs.length
    · rw [drop_at h0 hlt, List.map_cons, List.cons_append, sp_cons, List.length_cons, List.length_append] at hm
      have hT : (T (m.addrs[i.toNat]'(by omega))).length = (tx (m.addrs[i.toNat]'(by omega)).toNat).length := rfl
      rw [ct (decide_eq_true hlt) rfl, ct (decide_eq_true (by simp; omega)) rfl, bnd (geti_at h0 hlt) rfl, bnd (rText_eq (ha _ (List.getElem_mem _))) rfl, ct (decide_eq_true (by simp; omega)) rfl, inc h0 (by omega)]
      refine rPut_l1 s0 s4 s5 m hx hl ha hal W h4 hW F R hk n (i + 1) _ (by omega) (by omega) (by omega) ?_
      rw [← hw, drop_at h0 hlt, List.map_cons, List.cons_append, sp_cons]
      simp [T]
    · rw [drop_end h0 hlt, List.map_nil, List.nil_append, sp_cons] at hw
      rw [cf (decide_eq_false hlt) rfl, ct (decide_eq_true (by simp; omega)) rfl]
      refine rPut_l2 s0 s4 s5 m hx hl W h4 hW F R hk n 0 _ (by omega) (by omega) (by omega) ?_
      rw [← hw]
      simp [ER]
theorem rPut_l0 (l : List Event) (hG : GL l) (hl : l.length ≤ 100000) : ∀ (d n : Nat) (i : Int) (s4 : List UInt8), d * 700 < n → 0 ≤ i → (l.length : Int) - i ≤ d → i ≤ l.length → s4.length ≤ 10001 * i → lodgerref28_Put_l0 n l s4 i = some (s4 ++ cat (l.drop i.toNat), 0)
  | d, n + 1, i, s4, hn, h0, hd, hi, h4 => by
    rw [su0_lodgerref28_Put]
    unfold lodgerref28_Put_s0
    by_cases hlt : i < l.length
    · have he := hG _ (List.getElem_mem (n := i.toNat) (h := by omega))
      rw [ct (decide_eq_true hlt) rfl, bnd (geti_at h0 hlt) rfl, drop_at h0 hlt, cat_cons]
      generalize l[i.toNat]'(by omega) = e at he ⊢
      obtain ⟨hE, hU⟩ := he
      have hL := ln_len hE hU
      have hk := F_kind hE
      obtain ⟨_, h1, h2, h3, h4', h5, h6, h7, h8⟩ := ev_parts hE
      have l0 := N_len hk
      have l1 := N_len h1
      have l2 := N_len h2
      have l3 := N_len h3
      have l4 := N_len h4'
      have l5 := N_len (F12 h5)
      have l6 : (tx e.answer.addr.toNat).length ≤ 15 := T_len hU.1
      refine bnd (rdec_N hk) (ct (decide_eq_true (by simp; omega)) ?_)
      refine bnd (rdec_N h1) (ct (decide_eq_true (by simp; omega)) (ct (decide_eq_true (by simp; omega)) ?_))
      refine bnd (rdec_N h2) (ct (decide_eq_true (by simp; omega)) (ct (decide_eq_true (by simp; omega)) ?_))
      refine bnd (rdec_N h3) (ct (decide_eq_true (by simp; omega)) (ct (decide_eq_true (by simp; omega)) ?_))
      refine bnd (rdec_N h4') (ct (decide_eq_true (by simp; omega)) (ct (decide_eq_true (by simp; omega)) ?_))
      refine bnd (rdec_N (F12 h5)) (ct (decide_eq_true (by simp; omega)) (ct (decide_eq_true (by simp; omega)) ?_))
      refine bnd (rText_eq hU.1) (ct (decide_eq_true (by simp; omega)) ?_)
      cases d with
      | zero => omega
      | succ d =>
        have fin : ∀ n', d * 700 + 1 ≤ n' → lodgerref28_Put_l0 n' l ((s4 ++ ln e) ++ [10]) (IntKind.wrap .i64 (i + 1)) = some (s4 ++ (line e ++ cat (l.drop (i + 1).toNat)), 0) := fun n' hn' => by
          rw [inc h0 (by omega), rPut_l0 l hG hl d n' (i + 1) _ (by omega) (by omega) (by omega) (by omega) (by simp; omega)]
          unfold line
          simp
        cases hub : e.answer.used with
        | true =>
          refine ct rfl (ct (decide_eq_true (by simp; omega)) (rPut_l1 l s4 i e.answer (fun x hx => F12 (h8 x hx)) (by omega) hU.2 (by omega) (ln e) (by omega) (by omega) (d * 700 + 1) _ fin n 0 _ (by omega) (by omega) (by omega) ?_))
          unfold ln lw
          rw [hub]
          simp [sp, yn, AD, T]
        | false =>
          refine cf rfl (ct (decide_eq_true (by simp; omega)) (rPut_l1 l s4 i e.answer (fun x hx => F12 (h8 x hx)) (by omega) hU.2 (by omega) (ln e) (by omega) (by omega) (d * 700 + 1) _ fin n 0 _ (by omega) (by omega) (by omega) ?_))
          unfold ln lw
          rw [hub]
          simp [sp, yn, AD, T]
    · rw [cf (decide_eq_false hlt) rfl, drop_end h0 hlt, cat_nil, List.append_nil]
theorem rPut_good {l : List Event} (hl : l.length ≤ 100000) (h : GL l) : lodgerref28_Put l = some (cat l, 0) := by
  have h1 : lodgerref28_Put l = lodgerref28_Put_e (lodgerref28_Put_l0 big) (lodgerref28_Put_l1 big) (lodgerref28_Put_l2 big) l := rfl
  rw [h1]
  unfold lodgerref28_Put_e
  rw [rMay_all l (by omega), Option.bind_some, GL_all h]
  exact cf rfl (rPut_l0 l h hl l.length big 0 [] (by unfold big; omega) (by omega) (by omega) (by omega) (by simp))
theorem rPut_bad {l : List Event} (hl : l.length ≤ 100000) (h : l.all evB = false) : lodgerref28_Put l = some ([], 2) := by
  have h1 : lodgerref28_Put l = lodgerref28_Put_e (lodgerref28_Put_l0 big) (lodgerref28_Put_l1 big) (lodgerref28_Put_l2 big) l := rfl
  rw [h1]
  unfold lodgerref28_Put_e
  rw [rMay_all l (by omega), Option.bind_some, h]
  rfl
end Go.Lv.Ld
namespace Go.Lv.Ld
set_option linter.all false
open Go Go.Lv Go.IntWalk
set_option linter.unusedVariables false
set_option linter.unusedSimpArgs false
set_option maxRecDepth 100000
/-! What a line's words are read as. -/
def anum (w : List UInt8) : Int := match strconv_Atoi w with | some r => r.1 | none => 0
theorem anum_eq {w : List UInt8} (h : w.length ≤ 100000) : ∃ b, strconv_Atoi w = some (anum w, b) := by
  obtain ⟨r, hr⟩ := Atoi_some (s := w) (by omega)
  exact ⟨r.2, by unfold anum; rw [hr]⟩
theorem anum_N {x : Int} (h : F40 x) : anum (N x) = x := by
  have h1 := N_len h
  unfold F40 at h
  have : strconv_Atoi (N x) = some ((x.toNat : Int), false) := by
    unfold strconv_Atoi
    rw [if_pos (by omega)]
    unfold N
    rw [atoi_D (by omega)]
  unfold anum
  rw [this]
  show (x.toNat : Int) = x
  omega
def apar (w : List UInt8) : Int := match addr_Parse w with | some r => r.1 | none => 0
theorem apar_eq {w : List UInt8} (h : w.length ≤ 100000) : ∃ b, addr_Parse w = some (apar w, b) ∧ U32 (apar w) := by
  obtain ⟨r, hr, hp⟩ := Parse_ps (s := w) h
  have : apar w = r.1 := by unfold apar; rw [hr]
  exact ⟨r.2, by rw [hr, this], by rw [this]; exact PS_u32 hp⟩
theorem apar_T {a : Int} (h : U32 a) : apar (T a) = a := by
  unfold U32 at h
  unfold apar T
  rw [Parse_tx (a := a.toNat) (by omega)]
  show (a.toNat : Int) = a
  omega
def nER (w : List UInt8) : Bool := !(w == ([101, 114, 114, 115] : List UInt8))
def WB (ws : List (List UInt8)) : Prop := ∀ w ∈ ws, w.length ≤ 100000
theorem WB_tail {ws : List (List UInt8)} (h : WB ws) : WB (List.tail ws) := fun w hw => h w (List.mem_of_mem_tail hw)
theorem WB_head {ws : List (List UInt8)} (h : WB ws) : (wHead ws).length ≤ 100000 := by
  cases ws with
  | nil => simp [wHead]
  | cons w r => exact h w (by simp)
def RD (ws : List (List UInt8)) : Event :=
  ⟨anum (wHead ws), anum (wHead (List.tail ws)), anum (wHead (List.tail (List.tail ws))), anum (wHead (List.tail (List.tail (List.tail ws)))), anum (wHead (List.tail (List.tail (List.tail (List.tail ws))))),
   ⟨anum (wHead (List.tail (List.tail (List.tail (List.tail (List.tail ws)))))), apar (wHead (List.tail (List.tail (List.tail (List.tail (List.tail (List.tail ws))))))), (wHead (List.tail (List.tail (List.tail (List.tail (List.tail (List.tail (List.tail ws)))))))) == ([121, 101, 115] : List UInt8),
    ((List.tail (List.tail (List.tail (List.tail (List.tail (List.tail (List.tail (List.tail (List.tail ws))))))))).takeWhile nER).map apar, (List.tail ((List.tail (List.tail (List.tail (List.tail (List.tail (List.tail (List.tail (List.tail (List.tail ws))))))))).dropWhile nER)).map anum⟩⟩
theorem read_l1 (a0 a1 a2 a3 a4 a5 a6 : Int) (a7 : Bool) (b0 b1 b2 b3 b4 b5 b6 : Int) (b7 : Bool) (m4 : List Int) : ∀ (n : Nat) (ws : List (List UInt8)) (m5 : List Int), ws.length < n → WB ws → m5.length + ws.length ≤ 1000000 →
    tell_read_l1 n a0 a1 a2 a3 a4 a5 a6 a7 ws b0 b1 b2 b3 b4 b5 b6 b7 m4 m5 = some ⟨b0, b1, b2, b3, b4, ⟨b5, b6, b7, m4, m5 ++ ws.map anum⟩⟩
  | n + 1, [], m5, hn, hw, hl => by
    rw [su1_tell_read]
    unfold tell_read_s1
    rw [cf (decide_eq_false (by simp)) rfl]
    simp
  | n + 1, w :: ws, m5, hn, hw, hl => by
    rw [su1_tell_read]
    unfold tell_read_s1
    obtain ⟨b, hb⟩ := anum_eq (hw w (by simp))
    simp only [List.length_cons] at hn hl
    rw [ct (decide_eq_true (by simp only [List.length_cons]; omega)) rfl, bnd (show strconv_Atoi (wHead (w :: ws)) = some (anum w, b) from hb) rfl, ct (decide_eq_true (by unfold maxList; simp; omega)) rfl]
    rw [List.tail_cons, read_l1 a0 a1 a2 a3 a4 a5 a6 a7 b0 b1 b2 b3 b4 b5 b6 b7 m4 n ws _ (by omega) (WB_tail hw) (by simp; omega)]
    simp
theorem read_l0 (a0 a1 a2 a3 a4 a5 a6 : Int) (a7 : Bool) (b0 b1 b2 b3 b4 b5 b6 : Int) (b7 : Bool) : ∀ (n : Nat) (ws : List (List UInt8)) (m4 : List Int), ws.length + 1 < n → WB ws → m4.length + ws.length ≤ 1000000 →
    tell_read_l0 n a0 a1 a2 a3 a4 a5 a6 a7 ws b0 b1 b2 b3 b4 b5 b6 b7 m4 = some ⟨b0, b1, b2, b3, b4, ⟨b5, b6, b7, m4 ++ (ws.takeWhile nER).map apar, (List.tail (ws.dropWhile nER)).map anum⟩⟩
  | n + 1, [], m4, hn, hw, hl => by
    rw [su0_tell_read]
    unfold tell_read_s0
    rw [cf (decide_eq_false (by simp)) rfl, read_l1 _ _ _ _ _ _ _ _ _ _ _ _ _ _ _ _ _ n _ _ (by simp at hn ⊢; omega) (WB_tail hw) (by simp)]
    simp
  | n + 1, w :: ws, m4, hn, hw, hl => by
    rw [su0_tell_read]
    unfold tell_read_s0
    obtain ⟨b, hb, _⟩ := apar_eq (hw w (by simp))
    simp only [List.length_cons] at hn hl
    rw [ct (decide_eq_true (by simp only [List.length_cons]; omega)) rfl, bnd (show geti (w :: ws) 0 = some w from rfl) rfl]
    have hEd : (!(w == ([101, 114, 114, 115] : List UInt8))) = nER w := rfl
    rw [hEd]
    cases hE : nER w with
    | true =>
      rw [ct rfl rfl, bnd (show addr_Parse (wHead (w :: ws)) = some (apar w, b) from hb) rfl, ct (decide_eq_true (by unfold maxList; simp; omega)) rfl]
      rw [List.tail_cons, read_l0 a0 a1 a2 a3 a4 a5 a6 a7 b0 b1 b2 b3 b4 b5 b6 b7 n ws _ (by omega) (WB_tail hw) (by simp; omega)]
      rw [List.takeWhile_cons_of_pos hE, List.dropWhile_cons_of_pos hE]
      simp
    | false =>
      rw [cf rfl rfl, List.tail_cons, read_l1 _ _ _ _ _ _ _ _ _ _ _ _ _ _ _ _ _ n ws [] (by omega) (WB_tail hw) (by simp; omega)]
      rw [List.takeWhile_cons_of_neg (by simp [hE]), List.dropWhile_cons_of_neg (by simp [hE])]
      simp
theorem rd_key {ws : List (List UInt8)} (hw : WB ws) (hl : ws.length ≤ 1000000) :
    ((strconv_Atoi (wHead ws)).bind fun r2 => ((strconv_Atoi (wHead (List.tail ws))).bind fun r3 => ((strconv_Atoi (wHead (List.tail (List.tail ws)))).bind fun r4 => ((strconv_Atoi (wHead (List.tail (List.tail (List.tail ws))))).bind fun r5 => ((strconv_Atoi (wHead (List.tail (List.tail (List.tail (List.tail ws)))))).bind fun r6 => ((strconv_Atoi (wHead (List.tail (List.tail (List.tail (List.tail (List.tail ws))))))).bind fun r7 => ((addr_Parse (wHead (List.tail (List.tail (List.tail (List.tail (List.tail (List.tail ws)))))))).bind fun r8 =>
      tell_read_l0 big 0 0 0 0 0 0 0 false (List.tail (List.tail (List.tail (List.tail (List.tail (List.tail (List.tail (List.tail (List.tail ws))))))))) r2.1 r3.1 r4.1 r5.1 r6.1 r7.1 r8.1 ((wHead (List.tail (List.tail (List.tail (List.tail (List.tail (List.tail (List.tail ws)))))))) == ([121, 101, 115] : List UInt8)) ([] : (List Int))))))))) = some (RD ws) := by
  have t1 := WB_tail hw
  have t2 := WB_tail t1
  have t3 := WB_tail t2
  have t4 := WB_tail t3
  have t5 := WB_tail t4
  have t6 := WB_tail t5
  have t7 := WB_tail t6
  have t8 := WB_tail t7
  have t9 := WB_tail t8
  obtain ⟨c0, h0⟩ := anum_eq (WB_head hw)
  obtain ⟨c1, h1⟩ := anum_eq (WB_head t1)
  obtain ⟨c2, h2⟩ := anum_eq (WB_head t2)
  obtain ⟨c3, h3⟩ := anum_eq (WB_head t3)
  obtain ⟨c4, h4⟩ := anum_eq (WB_head t4)
  obtain ⟨c5, h5⟩ := anum_eq (WB_head t5)
  obtain ⟨c6, h6, _⟩ := apar_eq (WB_head t6)
  refine bnd h0 (bnd h1 (bnd h2 (bnd h3 (bnd h4 (bnd h5 (bnd h6 ?_))))))
  refine (read_l0 _ _ _ _ _ _ _ _ _ _ _ _ _ _ _ _ big _ [] ?_ t9 ?_).trans ?_
  · simp only [List.length_tail]; unfold big; omega
  · simp only [List.length_tail, List.length_nil]; omega
  · rfl
theorem split_w32 (s : List UInt8) : (∀ w ∈ Lib.split s [32], w.length ≤ s.length) ∧ (Lib.split s [32]).length ≤ s.length + 2 := by
  obtain ⟨h1, h2⟩ := splitK_w [32] (Lib.count s [32]) s
  have := Lib.count_le s [32]
  exact ⟨h1, by unfold Lib.split; omega⟩
theorem Split32 {s : List UInt8} (h : s.length ≤ 1000000) : strings_Split s [32] = some (Lib.split s [32]) := by
  unfold strings_Split
  rw [if_pos ⟨by omega, rfl⟩]
theorem WB_split {x : List UInt8} (h : x.length ≤ 100000) : WB (Lib.split x [32]) := fun w hw => by have := (split_w32 x).1 w hw; omega
theorem read_nl {x : List UInt8} (h : x.length ≤ 100000) : tell_read (x ++ [10]) = some (RD (Lib.split x [32])) := by
  have e : tell_read (x ++ [10]) = tell_read_e (tell_read_l0 big) (tell_read_l1 big) (x ++ [10]) := rfl
  rw [e]
  unfold tell_read_e
  have hl : ((x ++ [10]).length : Int) = x.length + 1 := by simp
  have hw : IntKind.wrap .i64 (((x ++ [10]).length : Int) - (([10] : List UInt8).length : Int)) = x.length := by
    rw [hl]
    have : (([10] : List UInt8).length : Int) = 1 := rfl
    rw [this, i64_in _ ⟨by omega, by omega⟩]
    omega
  rw [hw]
  have hd : ((x ++ [10]).drop (Int.toNat (x.length : Int))).take (Int.toNat ((x ++ [10]).length : Int) - Int.toNat (x.length : Int)) = [10] := by
    rw [hl]
    have h1 : Int.toNat (x.length : Int) = x.length := by omega
    have h2 : Int.toNat ((x.length : Int) + 1) - x.length = 1 := by omega
    rw [h1, h2]
    simp
  have ht : ((x ++ [10]).drop (Int.toNat 0)).take (Int.toNat (x.length : Int) - Int.toNat 0) = x := by
    have h1 : Int.toNat (x.length : Int) - Int.toNat 0 = x.length := by simp
    rw [h1]
    simp
  rw [hd, ht]
  have h1' : (([10] : List UInt8).length : Int) = 1 := rfl
  refine ct (decide_eq_true (by rw [hl, h1']; omega)) (ct (decide_eq_true (by rw [hl]; omega)) (ct (by decide) (ct (decide_eq_true (by rw [hl]; omega)) (bnd (Split32 (by omega)) ?_))))
  exact rd_key (WB_split h) (by have := (split_w32 x).2; omega)
theorem read_no {s : List UInt8} (h : s.length ≤ 100000) (h0 : s ≠ []) (h10 : (10 : UInt8) ∉ s) : tell_read s = some (RD (Lib.split s [32])) := by
  have e : tell_read s = tell_read_e (tell_read_l0 big) (tell_read_l1 big) s := rfl
  rw [e]
  unfold tell_read_e
  have hp : 1 ≤ s.length := by cases s with | nil => exact absurd rfl h0 | cons a l => simp
  have hw : IntKind.wrap .i64 ((s.length : Int) - (([10] : List UInt8).length : Int)) = s.length - 1 := by
    have : (([10] : List UInt8).length : Int) = 1 := rfl
    rw [this, i64_in _ ⟨by omega, by omega⟩]
  rw [hw]
  refine ct (decide_eq_true (by simp; omega)) (ct (decide_eq_true (by omega)) (cf ?_ (bnd (Split32 (by omega)) ?_)))
  · rw [beq_eq_false_iff_ne]
    intro hc
    have : (10 : UInt8) ∈ ([10] : List UInt8) := by simp
    rw [← hc] at this
    exact h10 (List.mem_of_mem_drop (List.mem_of_mem_take this))
  · exact rd_key (WB_split h) (by have := (split_w32 s).2; omega)
theorem RD_UA {ws : List (List UInt8)} (h : WB ws) : UA (RD ws) := by
  have t6 := WB_tail (WB_tail (WB_tail (WB_tail (WB_tail (WB_tail h)))))
  have t9 := WB_tail (WB_tail (WB_tail t6))
  refine ⟨?_, ?_⟩
  · obtain ⟨_, _, h1⟩ := apar_eq (WB_head t6)
    exact h1
  · intro a ha
    obtain ⟨w, hw, rfl⟩ := List.mem_map.1 (show a ∈ List.map apar _ from ha)
    obtain ⟨_, _, h1⟩ := apar_eq (t9 w ((List.takeWhile_sublist _).subset hw))
    exact h1
/-! A line's words. -/
theorem T_mem {a : Int} {c : UInt8} (h : c ∈ T a) : dig c ∨ c = 46 := tx_mem h
theorem nER_T (a : Int) : nER (T a) = true := by
  unfold nER
  rw [Bool.not_eq_true', beq_eq_false_iff_ne]
  intro h
  have : (101 : UInt8) ∈ T a := by rw [h]; simp
  rcases T_mem this with h | h
  · revert h; unfold dig; decide
  · revert h; decide
theorem tw_T (ads : List Int) (r : List (List UInt8)) : (ads.map T ++ ER :: r).takeWhile nER = ads.map T ∧ (ads.map T ++ ER :: r).dropWhile nER = ER :: r := by
  induction ads with
  | nil => exact ⟨rfl, rfl⟩
  | cons a l ih =>
    rw [List.map_cons, List.cons_append, List.takeWhile_cons_of_pos (nER_T a), List.dropWhile_cons_of_pos (nER_T a), ih.1, ih.2]
    exact ⟨rfl, rfl⟩
theorem map_T {ads : List Int} (h : ∀ a ∈ ads, U32 a) : (ads.map T).map apar = ads := by
  induction ads with
  | nil => rfl
  | cons a l ih => rw [List.map_cons, List.map_cons, apar_T (h a (by simp)), ih fun x hx => h x (by simp [hx])]
theorem map_N {xs : List Int} (h : ∀ a ∈ xs, F40 a) : (xs.map N).map anum = xs := by
  induction xs with
  | nil => rfl
  | cons a l ih => rw [List.map_cons, List.map_cons, anum_N (h a (by simp)), ih fun x hx => h x (by simp [hx])]
theorem yn_back (b : Bool) : (yn b == ([121, 101, 115] : List UInt8)) = b := by cases b <;> decide
theorem RD_inv {e : Event} (h : evB e = true) (hu : UA e) : RD (N e.kind :: lw e) = e := by
  have hk := F_kind h
  obtain ⟨_, h1, h2, h3, h4, h5, h6, h7, h8⟩ := ev_parts h
  have hR : RD (N e.kind :: lw e) = ⟨anum (N e.kind), anum (N e.client), anum (N e.ask), anum (N e.item), anum (N e.at_), ⟨anum (N e.answer.err), apar (T e.answer.addr), yn e.answer.used == ([121, 101, 115] : List UInt8),
    ((e.answer.addrs.map T ++ ER :: e.answer.errs.map N).takeWhile nER).map apar, (List.tail ((e.answer.addrs.map T ++ ER :: e.answer.errs.map N).dropWhile nER)).map anum⟩⟩ := rfl
  rw [hR, anum_N hk, anum_N h1, anum_N h2, anum_N h3, anum_N h4, anum_N (F12 h5), apar_T hu.1, yn_back, (tw_T _ _).1, (tw_T _ _).2, List.tail_cons, map_T hu.2, map_N fun x hx => F12 (h8 x hx)]
theorem split_sp : ∀ (ws : List (List UInt8)) (w : List UInt8), (∀ x ∈ w :: ws, (32 : UInt8) ∉ x) → Lib.split (w ++ sp ws) [32] = w :: ws
  | [], w, h => by rw [sp_nil, List.append_nil, split_last (h w (by simp))]
  | x :: ws, w, h => by
    rw [sp_cons, split_app (h w (by simp)), split_sp ws x fun y hy => h y (by simp only [List.mem_cons] at hy ⊢; exact Or.inr hy)]
theorem lw_no (c : UInt8) (hd : ¬ dig c) (h46 : c ≠ 46) (h1 : c ∉ yn true) (h2 : c ∉ yn false) (h3 : c ∉ AD) (h4 : c ∉ ER) (e : Event) : ∀ w ∈ N e.kind :: lw e, c ∉ w := by
  have hN : ∀ x, c ∉ N x := fun x => D_no hd
  have hT : ∀ x, c ∉ T x := fun x hx => (T_mem hx).elim hd h46
  intro w hw
  unfold lw at hw
  simp only [List.mem_append, List.mem_cons, List.mem_map, List.not_mem_nil, or_false] at hw
  rcases hw with rfl | (rfl | rfl | rfl | rfl | rfl | rfl | rfl | rfl) | (⟨a, ha, rfl⟩ | (rfl | ⟨x, hx, rfl⟩))
  · exact hN _
  · exact hN _
  · exact hN _
  · exact hN _
  · exact hN _
  · exact hN _
  · exact hT _
  · cases e.answer.used
    · exact h2
    · exact h1
  · exact h3
  · exact hT _
  · exact h4
  · exact hN _
theorem split_ln (e : Event) : Lib.split (ln e) [32] = N e.kind :: lw e :=
  split_sp _ _ (lw_no 32 nd32 (by decide) (by decide) (by decide) (by decide) (by decide) e)
theorem mem_sp {c : UInt8} (hc : c ≠ 32) : ∀ {ws : List (List UInt8)}, (∀ w ∈ ws, c ∉ w) → c ∉ sp ws
  | [], _ => by simp [sp]
  | w :: ws, h => by
    rw [sp_cons, List.mem_cons, List.mem_append]
    rintro (h1 | h1 | h1)
    · exact hc h1
    · exact h w (by simp) h1
    · exact mem_sp hc (fun x hx => h x (by simp [hx])) h1
theorem ln_no10 (e : Event) : (10 : UInt8) ∉ ln e := by
  have := lw_no 10 (by unfold dig; decide) (by decide) (by decide) (by decide) (by decide) (by decide) e
  unfold ln
  rw [List.mem_append]
  rintro (h | h)
  · exact this _ (by simp) h
  · exact mem_sp (by decide) (fun w hw => this w (by simp [hw])) h
theorem ln_ne (e : Event) : ln e ≠ [] := fun h => D_ne e.kind.toNat (List.append_eq_nil_iff.1 h).1
theorem read_line {e : Event} (h : evB e = true) (hu : UA e) : tell_read (line e) = some e := by
  have := ln_len h hu
  unfold line
  rw [read_nl (by omega), split_ln, RD_inv h hu]
theorem read_ln {e : Event} (h : evB e = true) (hu : UA e) : tell_read (ln e) = some e := by
  have := ln_len h hu
  rw [read_no (by omega) (ln_ne e) (ln_no10 e), split_ln, RD_inv h hu]
end Go.Lv.Ld
namespace Go.Lv.Ld
set_option linter.all false
open Go Go.Lv Go.IntWalk
set_option linter.unusedVariables false
set_option linter.unusedSimpArgs false
set_option maxRecDepth 100000
/-! A text is read. -/
theorem first_at {c : UInt8} : ∀ {s : List UInt8}, c ∈ s → ∃ x r, s = x ++ c :: r ∧ c ∉ x
  | b :: s, h => by
    by_cases hb : b = c
    · exact ⟨[], s, by rw [hb]; rfl, by simp⟩
    · rcases List.mem_cons.1 h with h | h
      · exact absurd h.symm hb
      · obtain ⟨x, r, rfl, hx⟩ := first_at h
        refine ⟨b :: x, r, rfl, ?_⟩
        rw [List.mem_cons]
        rintro (h | h)
        · exact hb h.symm
        · exact hx h
theorem gl_nil (n : Nat) (out : List Event) : tell_gl (n + 1) [] out = some out := by
  unfold tell_gl
  rw [ib_miss 10 [] (by simp)]
  rfl
theorem gl_last (n : Nat) {s : List UInt8} (out : List Event) (h0 : s ≠ []) (h : (10 : UInt8) ∉ s) (ho : out.length ≤ 1000000) {e : Event} (he : tell_read s = some e) : tell_gl (n + 1) s out = some (out ++ [e]) := by
  unfold tell_gl
  rw [ib_miss 10 s h]
  refine ct (by decide) (cf (by rw [beq_eq_false_iff_ne]; exact h0) (bnd he (ct (decide_eq_true (by unfold maxList; omega)) rfl)))
theorem gl_cons (n : Nat) {x r : List UInt8} (out : List Event) (h : (10 : UInt8) ∉ x) (ho : out.length ≤ 1000000) {e : Event} (he : tell_read (x ++ [10]) = some e) : tell_gl (n + 1) (x ++ 10 :: r) out = tell_gl n r (out ++ [e]) := by
  conv => lhs; unfold tell_gl
  rw [ib_app 10 x r h]
  have h1 : Int.toNat ((x.length : Int) + 1) = x.length + 1 := by omega
  have h2 : (x ++ 10 :: r).take (x.length + 1) = x ++ [10] := by
    have : x ++ 10 :: r = (x ++ [10]) ++ r := by simp
    rw [this]
    exact List.take_left' (by simp)
  rw [h1, h2, drop_past]
  exact cf (decide_eq_false (by omega)) (bnd he (ct (decide_eq_true (by unfold maxList; omega)) rfl))
theorem gl_cat (s : List UInt8) : ∀ (l : List Event), GL l → ∀ (n : Nat) (out : List Event), out.length + l.length ≤ 1000000 → tell_gl (n + l.length) (cat l ++ s) out = tell_gl n s (out ++ l)
  | [], _, n, out, _ => by rw [cat_nil, List.append_nil]; rfl
  | e :: l, h, n, out, ho => by
    have he := h e (by simp)
    have e1 : cat (e :: l) ++ s = ln e ++ 10 :: (cat l ++ s) := by rw [cat_cons, line]; simp
    have e2 : n + (e :: l).length = (n + l.length) + 1 := by simp; omega
    simp only [List.length_cons] at ho
    rw [e1, e2, gl_cons _ out (ln_no10 e) (by omega) (read_line he.1 he.2), gl_cat s l (GL_tail h) n _ (by simp; omega), List.append_assoc]
    rfl
theorem gl_some : ∀ (n : Nat) (s : List UInt8) (out : List Event), s.length < n → s.length ≤ 100000 → out.length + s.length ≤ 1000000 → (∀ e ∈ out, UA e) → ∃ out', tell_gl n s out = some out' ∧ (∀ e ∈ out', UA e) ∧ out'.length ≤ out.length + s.length
  | n + 1, s, out, hn, hs, ho, hu => by
    have hUA : ∀ {ws : List (List UInt8)}, WB ws → ∀ e ∈ out ++ [RD ws], UA e := fun hw e he => by
      rcases List.mem_append.1 he with he | he
      · exact hu e he
      · rw [List.mem_singleton.1 he]; exact RD_UA hw
    by_cases h10 : (10 : UInt8) ∈ s
    · obtain ⟨x, r, rfl, hx⟩ := first_at h10
      rw [List.length_append, List.length_cons] at hn hs ho
      rw [gl_cons n out hx (by omega) (read_nl (by omega)), List.length_append, List.length_cons]
      obtain ⟨out', h1, h2, h3⟩ := gl_some n r (out ++ [RD (Lib.split x [32])]) (by omega) (by omega) (by simp; omega) (hUA (WB_split (by omega)))
      refine ⟨out', h1, h2, ?_⟩
      simp at h3
      omega
    · by_cases h0 : s = []
      · subst h0
        exact ⟨out, gl_nil n out, hu, by simp⟩
      · have : 1 ≤ s.length := by cases s with | nil => exact absurd rfl h0 | cons a l => simp
        refine ⟨_, gl_last n out h0 h10 (by omega) (read_no hs h0 h10), hUA (WB_split hs), by simp; omega⟩
theorem Get_of {s : List UInt8} (hs : s.length ≤ 140737488355328) {out : List Event} (hg : tell_gl (s.length + 1) s [] = some out) {r : List UInt8 × Int} (hp : tell_Put out = some r) :
    tell_Get s = bif (!(r.2 == 0) || !(r.1 == s)) then some ([], 2) else some (out, 0) := by
  unfold tell_Get
  exact cf (decide_eq_false (by omega)) (bnd hg (bnd hp rfl))
theorem Get_good {l : List Event} (hl : l.length ≤ 100000) (h : GL l) : tell_Get (cat l) = some (l, 0) := by
  have hc := cat_len h
  have hg : tell_gl ((cat l).length + 1) (cat l) [] = some l := by
    have h1 := gl_cat [] l h ((cat l).length - l.length + 1) [] (by simp; omega)
    have h2 : (cat l).length - l.length + 1 + l.length = (cat l).length + 1 := by omega
    rw [h2, List.append_nil, gl_nil, List.nil_append] at h1
    exact h1
  rw [Get_of (by omega) hg (Put_good (by omega) h)]
  exact cf (by simp) rfl
theorem cat_inj {l m : List Event} (hl : l.length ≤ 100000) (hm : m.length ≤ 100000) (h : GL l) (h' : GL m) (e : cat l = cat m) : l = m := by
  have h1 := Get_good hl h
  rw [e, Get_good hm h'] at h1
  exact ((Prod.mk.inj (Option.some.inj h1)).1).symm
theorem Get_cut {l : List Event} {e : Event} (hl : l.length ≤ 100000) (h : GL (l ++ [e])) : tell_Get (cat l ++ ln e) = some ([], 2) := by
  have he := h e (by simp)
  have hG : GL l := fun x hx => h x (by simp [hx])
  have hc := cat_len hG
  have hL := ln_len he.1 he.2
  have hg : tell_gl ((cat l ++ ln e).length + 1) (cat l ++ ln e) [] = some (l ++ [e]) := by
    have h1 := gl_cat (ln e) l hG ((cat l ++ ln e).length - l.length + 1) [] (by simp; omega)
    have h3 : l.length ≤ (cat l ++ ln e).length := by simp; omega
    have h2 : (cat l ++ ln e).length - l.length + 1 + l.length = (cat l ++ ln e).length + 1 := by omega
    rw [h2, List.nil_append, gl_last _ l (ln_ne e) (ln_no10 e) (by omega) (read_ln he.1 he.2)] at h1
    exact h1
  rw [Get_of (by simp; omega) hg (Put_good (by simp; omega) h)]
  refine ct ?_ rfl
  have : (cat (l ++ [e]) == cat l ++ ln e) = false := by
    rw [beq_eq_false_iff_ne, cat_app]
    intro hc
    have := congrArg List.length (List.append_cancel_left hc)
    rw [cat_cons, cat_nil, line] at this
    simp at this
  rw [this]
  rfl
/-- A text is a log's, or none's. -/
def GR (s : List UInt8) (r : List Event × Int) : Prop := (∃ l, GL l ∧ l.length ≤ 100000 ∧ cat l = s ∧ r = (l, 0)) ∨ ((∀ l, GL l → cat l ≠ s) ∧ r = ([], 2))
theorem GR_uniq {s : List UInt8} {r r' : List Event × Int} (h : GR s r) (h' : GR s r') : r = r' := by
  rcases h with ⟨l, hg, hl, hc, rfl⟩ | ⟨hn, rfl⟩ <;> rcases h' with ⟨l', hg', hl', hc', rfl⟩ | ⟨hn', rfl⟩
  · rw [cat_inj hl hl' hg hg' (hc.trans hc'.symm)]
  · exact absurd hc (hn' l hg)
  · exact absurd hc' (hn l' hg')
  · rfl
theorem Get_gr {s : List UInt8} (hs : s.length ≤ 100000) : ∃ r, tell_Get s = some r ∧ GR s r := by
  obtain ⟨out, hg, hu, ho⟩ := gl_some (s.length + 1) s [] (by omega) hs (by simp; omega) (by simp)
  simp at ho
  have none : tell_Get s = some ([], 2) → ∀ l, GL l → cat l ≠ s := fun hr l hl hc => by
    have hle := (cat_len hl).2
    rw [← hc, Get_good (by rw [hc] at hle; omega) hl] at hr
    exact absurd (Prod.mk.inj (Option.some.inj hr)).2 (by decide)
  cases ha : out.all evB with
  | false =>
    have hr : tell_Get s = some ([], 2) := by
      rw [Get_of (by omega) hg (Put_bad (by omega) ha)]; rfl
    exact ⟨_, hr, .inr ⟨none hr, rfl⟩⟩
  | true =>
    have hG := GL_of ha hu
    have hr := Get_of (by omega) hg (Put_good (by omega) hG)
    by_cases hc : cat out = s
    · refine ⟨_, hr.trans (cf (by simp [hc]) rfl), .inl ⟨out, hG, by omega, hc, rfl⟩⟩
    · have hr2 : tell_Get s = some ([], 2) := hr.trans (ct (by simp [hc]) rfl)
      exact ⟨_, hr2, .inr ⟨none hr2, rfl⟩⟩
end Go.Lv.Ld
namespace Go.Lv.Ld
set_option linter.all false
open Go Go.Lv Go.IntWalk
set_option linter.unusedVariables false
set_option linter.unusedSimpArgs false
set_option maxRecDepth 100000
/-! The document's reading. -/
def nstp (v : Int) (c : UInt8) : Int := mm false (10 * v + c.toNat - 48) 2199023255552
def gv : List UInt8 → Int → Int
  | [], v => v
  | c :: r, v => bif decide ((c.toNat : Int) < 48) then 0 else bif decide ((c.toNat : Int) > 57) then 0 else gv r (nstp v c)
theorem nstp_r {v : Int} {c : UInt8} (h0 : 0 ≤ v) (hc : 48 ≤ c.toNat) : 0 ≤ nstp v c ∧ nstp v c ≤ 2199023255552 := by
  unfold nstp mm
  simp only [Bool.false_eq_true, if_false]
  split <;> omega
theorem gv_D (r : List UInt8) : ∀ u : Nat, u ≤ 2199023255552 → gv (D u ++ r) 0 = gv r (u : Int) := by
  intro u
  induction u using Nat.strongRecOn generalizing r with
  | _ u ih =>
    intro hu
    have stp : ∀ (v : Int) (k : Nat), k < 10 → 0 ≤ v → 10 * v + k ≤ 2199023255552 → gv (UInt8.ofNat (48 + k) :: r) v = gv r (10 * v + k) := fun v k hk h0 hv => by
      have hc := ch k hk
      show (bif _ then _ else bif _ then _ else _) = _
      rw [cf (decide_eq_false (by omega)) rfl, cf (decide_eq_false (by omega)) rfl]
      unfold nstp mm
      simp only [Bool.false_eq_true, if_false]
      rw [hc]
      split
      · omega
      · have : 10 * v + ((48 + k : Nat) : Int) - 48 = 10 * v + k := by omega
        rw [this]
    by_cases h : u < 10
    · rw [D_small h, List.singleton_append, stp 0 u h (by omega) (by omega)]
      congr 1
      omega
    · rw [D_big (by omega), List.append_assoc, ih (u / 10) (by omega) _ (by omega), List.singleton_append, stp _ _ (by omega) (by omega) (by omega)]
      congr 1
      omega
theorem gv_N {x : Int} (h : F40 x) : gv (N x) 0 = x := by
  unfold F40 at h
  have := gv_D [] x.toNat (by omega)
  rw [List.append_nil] at this
  unfold N
  rw [this]
  show (x.toNat : Int) = x
  omega
theorem num_l (l : List (List UInt8)) (k : Int) (w : List UInt8) (hg : geti l k = some w) (hw : w.length ≤ 100000) : ∀ (n : Nat) (i v : Int), (w.length : Int) - i < n → 0 ≤ i → i ≤ w.length → 0 ≤ v → v ≤ 2199023255552 → lodgerref28_num_l0 n l k v i = some (gv (w.drop i.toNat) v)
  | 0, i, v, hn, h0, hi, _, _ => by omega
  | n + 1, i, v, hn, h0, hi, v0, v1 => by
    rw [su0_lodgerref28_num]
    unfold lodgerref28_num_s0
    rw [bnd hg rfl]
    by_cases hlt : i < w.length
    · rw [ct (decide_eq_true hlt) rfl, bnd hg rfl, bnd (geti_at h0 hlt) rfl, drop_at h0 hlt]
      have hb := (w[i.toNat]'(by omega)).toNat_lt
      have hg2 := geti_at (l := w) h0 hlt
      generalize w[i.toNat]'(by omega) = c at hb hg2 ⊢
      show _ = some (bif _ then _ else bif _ then _ else _)
      by_cases hx : (c.toNat : Int) < 48
      · rw [ct (decide_eq_true hx) rfl, ct (decide_eq_true hx) rfl]
      · rw [cf (decide_eq_false hx) rfl, cf (decide_eq_false hx) rfl, bnd hg rfl, bnd hg2 rfl]
        by_cases hy : (c.toNat : Int) > 57
        · rw [ct (decide_eq_true hy) rfl, ct (decide_eq_true hy) rfl]
        · rw [cf (decide_eq_false hy) rfl, cf (decide_eq_false hy) rfl, bnd hg rfl, bnd hg2 rfl, inc h0 (by omega)]
          have e : (mm false (IntKind.wrap .i64 ((IntKind.wrap .i64 ((IntKind.wrap .i64 (10 * v)) + (IntKind.wrap .i64 (c.toNat : Int)))) - 48)) 2199023255552) = nstp v c := by
            rw [i64_in (10 * v) ⟨by omega, by omega⟩, i64_in (c.toNat : Int) ⟨by omega, by omega⟩, i64_in (10 * v + (c.toNat : Int)) ⟨by omega, by omega⟩, i64_in _ ⟨by omega, by omega⟩]
            rfl
          rw [e]
          have hr := nstp_r (c := c) v0 (by omega)
          exact num_l l k w hg hw n (i + 1) _ (by omega) (by omega) (by omega) hr.1 hr.2
    · rw [cf (decide_eq_false hlt) rfl, drop_end h0 hlt]
      rfl
def rn (ws : List (List UInt8)) (k : Int) : Int := match geti ws k with | some w => gv w 0 | none => 0
theorem geti_none {α : Type} {l : List α} {i : Int} (h : l.length ≤ i) : geti l i = none := by
  unfold geti
  rw [if_pos (by omega)]
  exact List.getElem?_eq_none (by omega)
theorem num_eq {ws : List (List UInt8)} (hw : WB ws) {k : Int} (hk : 0 ≤ k) : lodgerref28_num ws k = some (rn ws k) := by
  have h1 : lodgerref28_num ws k = lodgerref28_num_e (lodgerref28_num_l0 big) ws k := rfl
  rw [h1]
  unfold lodgerref28_num_e rn
  by_cases h : k < ws.length
  · have hg := geti_at hk h
    have hm := hw _ (List.getElem_mem (n := k.toNat) (h := by omega))
    generalize ws[k.toNat]'(by omega) = w at hg hm
    rw [cf (decide_eq_false (by omega)) rfl, hg, num_l ws k w hg hm big 0 0 (by unfold big; omega) (by omega) (by omega) (by omega) (by omega)]
    rfl
  · rw [ct (decide_eq_true (by omega)) rfl, geti_none (by omega)]
def rpar (w : List UInt8) : Int := match lodgerref04_Parse w with | some r => r.1 | none => 0
theorem rpar_eq {w : List UInt8} (h : w.length ≤ 100000) : ∃ b, lodgerref04_Parse w = some (rpar w, b) ∧ U32 (rpar w) := by
  obtain ⟨r, hr, hp⟩ := rParse_ps (s := w) h
  have : rpar w = r.1 := by unfold rpar; rw [hr]
  exact ⟨r.2, by rw [hr, this], by rw [this]; exact PS_u32 hp⟩
theorem rpar_T {a : Int} (h : U32 a) : rpar (T a) = a := by
  unfold U32 at h
  unfold rpar T
  rw [rParse_tx (a := a.toNat) (by omega)]
  show (a.toNat : Int) = a
  omega
def gv0 (w : List UInt8) : Int := gv w 0
theorem one_l1 (l : List (List UInt8)) (hw : WB l) (hl : l.length ≤ 1000000) (a0 a1 a2 a3 a4 a5 a6 : Int) (a7 : Bool) (b0 b1 b2 b3 b4 b5 b6 : Int) (b7 : Bool) (m2 : List Int) : ∀ (n : Nat) (i : Int) (m3 : List Int), (l.length : Int) - i < n → 0 < n → 0 ≤ i → i ≤ 2000000 → m3.length ≤ i →
    lodgerref28_one_l1 n l i a0 a1 a2 a3 a4 a5 a6 a7 b0 b1 b2 b3 b4 b5 b6 b7 m2 m3 = some ⟨b0, b1, b2, b3, b4, ⟨b5, b6, b7, m2, m3 ++ (l.drop i.toNat).map gv0⟩⟩
  | n + 1, i, m3, hn, hp, h0, hi, h3 => by
    rw [su1_lodgerref28_one]
    unfold lodgerref28_one_s1
    by_cases hlt : i < l.length
    · have e : rn l i = gv0 (l[i.toNat]'(by omega)) := by unfold rn; rw [geti_at h0 hlt]; rfl
      rw [ct (decide_eq_true hlt) rfl, bnd (num_eq hw h0) rfl, ct (decide_eq_true (by unfold maxList; simp; omega)) rfl, inc h0 (by omega), drop_at h0 hlt]
      rw [one_l1 l hw hl a0 a1 a2 a3 a4 a5 a6 a7 b0 b1 b2 b3 b4 b5 b6 b7 m2 n (i + 1) _ (by omega) (by omega) (by omega) (by omega) (by simp; omega), e]
      simp
    · rw [cf (decide_eq_false hlt) rfl, drop_end h0 hlt]
      simp
theorem one_l0 (l : List (List UInt8)) (hw : WB l) (hl : l.length ≤ 1000000) (a0 a1 a2 a3 a4 a5 a6 : Int) (a7 : Bool) (b0 b1 b2 b3 b4 b5 b6 : Int) (b7 : Bool) : ∀ (n : Nat) (i : Int) (m2 : List Int), (l.length : Int) - i + 1 < n → 1 < n → 0 ≤ i → i ≤ 1500000 → m2.length ≤ i →
    lodgerref28_one_l0 n l i a0 a1 a2 a3 a4 a5 a6 a7 b0 b1 b2 b3 b4 b5 b6 b7 m2 = some ⟨b0, b1, b2, b3, b4, ⟨b5, b6, b7, m2 ++ ((l.drop i.toNat).takeWhile nER).map rpar, (List.tail ((l.drop i.toNat).dropWhile nER)).map gv0⟩⟩
  | n + 1, i, m2, hn, hp, h0, hi, h3 => by
    rw [su0_lodgerref28_one]
    unfold lodgerref28_one_s0
    by_cases hlt : i < l.length
    · have hg := geti_at h0 hlt
      have hm := hw _ (List.getElem_mem (n := i.toNat) (h := by omega))
      rw [ct (decide_eq_true hlt) rfl, bnd hg rfl, drop_at h0 hlt]
      generalize l[i.toNat]'(by omega) = w at hg hm ⊢
      obtain ⟨b, hb, _⟩ := rpar_eq hm
      have hEd : (!(w == ([101, 114, 114, 115] : List UInt8))) = nER w := rfl
      rw [hEd]
      cases hE : nER w with
      | true =>
        rw [ct rfl rfl, bnd hg rfl, bnd hb rfl, ct (decide_eq_true (by unfold maxList; simp; omega)) rfl, inc h0 (by omega)]
        rw [one_l0 l hw hl a0 a1 a2 a3 a4 a5 a6 a7 b0 b1 b2 b3 b4 b5 b6 b7 n (i + 1) _ (by omega) (by omega) (by omega) (by omega) (by simp; omega)]
        rw [List.takeWhile_cons_of_pos hE, List.dropWhile_cons_of_pos hE]
        simp
      | false =>
        rw [cf rfl rfl, inc h0 (by omega), one_l1 l hw hl _ _ _ _ _ _ _ _ _ _ _ _ _ _ _ _ _ n (i + 1) [] (by omega) (by omega) (by omega) (by omega) (by simp; omega)]
        rw [List.takeWhile_cons_of_neg (by simp [hE]), List.dropWhile_cons_of_neg (by simp [hE])]
        simp
    · rw [cf (decide_eq_false hlt) rfl, inc h0 (by omega), one_l1 l hw hl _ _ _ _ _ _ _ _ _ _ _ _ _ _ _ _ _ n (i + 1) [] (by omega) (by omega) (by omega) (by omega) (by simp; omega), drop_end h0 hlt, drop_end (i := i + 1) (by omega) (by omega)]
      simp
/-- The words from the seventh on. -/
def ra (ws : List (List UInt8)) : Int × Bool := match geti ws 6, geti ws 7 with | some x, some y => (rpar x, y == ([121, 101, 115] : List UInt8)) | _, _ => (0, false)
def RR (ws : List (List UInt8)) : Event :=
  ⟨rn ws 0, rn ws 1, rn ws 2, rn ws 3, rn ws 4, ⟨rn ws 5, (ra ws).1, (ra ws).2, ((ws.drop 9).takeWhile nER).map rpar, (List.tail ((ws.drop 9).dropWhile nER)).map gv0⟩⟩
theorem take_step {s : List UInt8} {at_ i : Int} (h0 : 0 ≤ at_) (h1 : at_ ≤ i) (hlt : i < s.length) : (s.drop at_.toNat).take ((i + 1).toNat - at_.toNat) = (s.drop at_.toNat).take (i.toNat - at_.toNat) ++ [s[i.toNat]'(by omega)] := by
  have e1 : (i + 1).toNat - at_.toNat = (i.toNat - at_.toNat) + 1 := by omega
  have e2 : (s.drop at_.toNat)[i.toNat - at_.toNat]? = some (s[i.toNat]'(by omega)) := by
    rw [List.getElem?_drop]
    have : at_.toNat + (i.toNat - at_.toNat) = i.toNat := by omega
    rw [this]
    exact List.getElem?_eq_getElem _
  rw [e1, List.take_add_one, e2]
  rfl
theorem words_l (x : List UInt8) (hx : x.length ≤ 1000000) : ∀ (n : Nat) (at_ i : Int) (m0 : List (List UInt8)), (x.length : Int) + 1 - i < n → 0 ≤ at_ → at_ ≤ i → i ≤ x.length → m0.length ≤ i → (32 : UInt8) ∉ (x.drop at_.toNat).take (i.toNat - at_.toNat) → lodgerref28_words_l0 n x at_ i m0 = some (m0 ++ Lib.split (x.drop at_.toNat) [32])
  | 0, at_, i, m0, hn, _, _, hi, _, _ => by omega
  | n + 1, at_, i, m0, hn, h0, h1, hi, hm, h32 => by
    rw [su0_lodgerref28_words]
    unfold lodgerref28_words_s0
    rw [ct (decide_eq_true hi) rfl]
    by_cases hlt : i < x.length
    · have hd : x.drop at_.toNat = (x.drop at_.toNat).take (i.toNat - at_.toNat) ++ (x[i.toNat]'(by omega)) :: x.drop (i + 1).toNat := by
        rw [← drop_at (by omega) hlt]
        have : x.drop i.toNat = (x.drop at_.toNat).drop (i.toNat - at_.toNat) := by rw [List.drop_drop]; congr 1; omega
        rw [this, List.take_append_drop]
      rw [cf (by rw [beq_eq_false_iff_ne]; omega) rfl, bnd (geti_at (by omega) hlt) rfl, inc (by omega) (by omega)]
      by_cases hc : (x[i.toNat]'(by omega)) = 32
      · rw [ct (by rw [hc]; decide) rfl, ct (decide_eq_true ⟨h0, h1, hi⟩) rfl, ct (decide_eq_true (by unfold maxList; simp; omega)) rfl]
        rw [words_l x hx n (i + 1) (i + 1) _ (by omega) (by omega) (by omega) (by omega) (by simp; omega) (by simp)]
        conv => rhs; rw [hd, hc, split_app h32]
        simp
      · rw [cf (by rw [beq_eq_false_iff_ne]; intro h; exact hc (UInt8.toNat_inj.1 (by show _ = 32; omega))) rfl]
        refine words_l x hx n at_ (i + 1) m0 (by omega) h0 (by omega) (by omega) (by omega) ?_
        rw [take_step h0 h1 hlt, List.mem_append]
        rintro (h | h)
        · exact h32 h
        · simp at h
          exact hc h.symm
    · have hix : i = x.length := by omega
      subst hix
      have ht : (x.drop at_.toNat).take (Int.toNat (x.length : Int) - at_.toNat) = x.drop at_.toNat := List.take_of_length_le (by rw [List.length_drop]; omega)
      rw [ht] at h32
      rw [ct (by simp) rfl, ct (decide_eq_true ⟨h0, h1, hi⟩) rfl, ct (decide_eq_true (by unfold maxList; simp; omega)) rfl, inc (by omega) (by omega), ht, split_last h32]
      cases n with
      | zero => omega
      | succ n =>
        rw [su0_lodgerref28_words]
        unfold lodgerref28_words_s0
        rw [cf (decide_eq_false (by omega)) rfl]
theorem words_eq {x : List UInt8} (hx : x.length ≤ 1000000) : lodgerref28_words x = some (Lib.split x [32]) := by
  have h1 : lodgerref28_words x = lodgerref28_words_l0 big x 0 0 [] := rfl
  rw [h1, words_l x hx big 0 0 [] (by unfold big; omega) (by omega) (by omega) (by omega) (by simp) (by simp)]
  simp
theorem one_eq {x : List UInt8} (hx : x.length ≤ 100000) : lodgerref28_one x = some (RR (Lib.split x [32])) := by
  have h1 : lodgerref28_one x = lodgerref28_one_e (lodgerref28_one_l0 big) (lodgerref28_one_l1 big) x := rfl
  rw [h1]
  unfold lodgerref28_one_e
  have hW := WB_split hx
  have hL := (split_w32 x).2
  rw [bnd (words_eq (by omega)) rfl]
  generalize Lib.split x [32] = ws at hW hL ⊢
  refine bnd (num_eq hW (by omega)) (bnd (num_eq hW (by omega)) (bnd (num_eq hW (by omega)) (bnd (num_eq hW (by omega)) (bnd (num_eq hW (by omega)) (bnd (num_eq hW (by omega)) ?_)))))
  by_cases h7 : (List.length ws : Int) > 7
  · have hg6 := geti_at (l := ws) (i := 6) (by omega) (by omega)
    have hg7 := geti_at (l := ws) (i := 7) (by omega) (by omega)
    have hm := hW _ (List.getElem_mem (n := (6 : Int).toNat) (h := by omega))
    generalize ws[(6 : Int).toNat]'(by omega) = u at hg6 hm
    generalize ws[(7 : Int).toNat]'(by omega) = v at hg7
    obtain ⟨b, hb, _⟩ := rpar_eq hm
    refine ct (decide_eq_true h7) (bnd hg6 (bnd hb (bnd hg7 ((one_l0 ws hW (by omega) _ _ _ _ _ _ _ _ _ _ _ _ _ _ _ _ big 9 [] (by unfold big; omega) (by unfold big; omega) (by omega) (by omega) (by simp)).trans ?_))))
    unfold RR ra
    rw [hg6, hg7]
    rfl
  · refine cf (decide_eq_false h7) ((one_l0 ws hW (by omega) _ _ _ _ _ _ _ _ _ _ _ _ _ _ _ _ big 9 [] (by unfold big; omega) (by unfold big; omega) (by omega) (by omega) (by simp)).trans ?_)
    unfold RR ra
    rw [geti_none (i := 7) (by omega)]
    have : (match geti ws 6, (none : Option (List UInt8)) with | some x, some y => (rpar x, y == ([121, 101, 115] : List UInt8)) | _, _ => ((0 : Int), false)) = (0, false) := by
      cases geti ws 6 <;> rfl
    rw [this]
    rfl
theorem RR_UA {ws : List (List UInt8)} (h : WB ws) : UA (RR ws) := by
  refine ⟨?_, ?_⟩
  · show U32 (ra ws).1
    have z : U32 0 := ⟨by decide, by decide⟩
    unfold ra
    cases hg : geti ws 6 with
    | none => exact z
    | some u =>
      cases geti ws 7 with
      | none => exact z
      | some v =>
        have hm : u ∈ ws := by
          unfold geti at hg
          rw [if_pos (by omega)] at hg
          exact List.mem_of_getElem? hg
        obtain ⟨_, _, h1⟩ := rpar_eq (h u hm)
        exact h1
  · intro a ha
    obtain ⟨w, hw, rfl⟩ := List.mem_map.1 (show a ∈ List.map rpar _ from ha)
    obtain ⟨_, _, h1⟩ := rpar_eq (h w (List.mem_of_mem_drop ((List.takeWhile_sublist _).subset hw)))
    exact h1
theorem rmap_T {ads : List Int} (h : ∀ a ∈ ads, U32 a) : (ads.map T).map rpar = ads := by
  induction ads with
  | nil => rfl
  | cons a l ih => rw [List.map_cons, List.map_cons, rpar_T (h a (by simp)), ih fun x hx => h x (by simp [hx])]
theorem rmap_N {xs : List Int} (h : ∀ a ∈ xs, F40 a) : (xs.map N).map gv0 = xs := by
  induction xs with
  | nil => rfl
  | cons a l ih => rw [List.map_cons, List.map_cons, show gv0 (N a) = a from gv_N (h a (by simp)), ih fun x hx => h x (by simp [hx])]
theorem RR_inv {e : Event} (h : evB e = true) (hu : UA e) : RR (N e.kind :: lw e) = e := by
  have hk := F_kind h
  obtain ⟨_, h1, h2, h3, h4, h5, h6, h7, h8⟩ := ev_parts h
  have hR : RR (N e.kind :: lw e) = ⟨gv (N e.kind) 0, gv (N e.client) 0, gv (N e.ask) 0, gv (N e.item) 0, gv (N e.at_) 0, ⟨gv (N e.answer.err) 0, rpar (T e.answer.addr), yn e.answer.used == ([121, 101, 115] : List UInt8),
    ((e.answer.addrs.map T ++ ER :: e.answer.errs.map N).takeWhile nER).map rpar, (List.tail ((e.answer.addrs.map T ++ ER :: e.answer.errs.map N).dropWhile nER)).map gv0⟩⟩ := rfl
  rw [hR, gv_N hk, gv_N h1, gv_N h2, gv_N h3, gv_N h4, gv_N (F12 h5), rpar_T hu.1, yn_back, (tw_T _ _).1, (tw_T _ _).2, List.tail_cons, rmap_T hu.2, rmap_N fun x hx => F12 (h8 x hx)]
/-! Its reading of a text. -/
def lns : List UInt8 → List UInt8 → List (List UInt8)
  | _, [] => []
  | acc, c :: r => if c = 10 then acc :: lns [] r else lns (acc ++ [c]) r
theorem lns_len : ∀ (r acc : List UInt8), (lns acc r).length ≤ r.length ∧ ∀ w ∈ lns acc r, w.length ≤ acc.length + r.length
  | [], acc => by simp [lns]
  | c :: r, acc => by
    unfold lns
    split
    · have h := lns_len r []
      refine ⟨by simp; omega, fun w hw => ?_⟩
      rcases List.mem_cons.1 hw with rfl | hw
      · simp
      · have := h.2 w hw; simp at this ⊢; omega
    · have h := lns_len r (acc ++ [c])
      refine ⟨by simp; omega, fun w hw => ?_⟩
      have := h.2 w hw; simp at this ⊢; omega
theorem lns_line {r : List UInt8} : ∀ (x acc : List UInt8), (10 : UInt8) ∉ x → lns acc (x ++ 10 :: r) = (acc ++ x) :: lns [] r
  | [], acc, _ => by simp [lns]
  | c :: x, acc, h => by
    have hc : c ≠ 10 := fun hc => h (by simp [hc])
    show lns acc (c :: (x ++ 10 :: r)) = _
    conv => lhs; unfold lns
    rw [if_neg hc, lns_line x _ (fun hx => h (by simp [hx]))]
    simp
theorem lns_cat : ∀ l : List Event, lns [] (cat l) = l.map ln
  | [] => rfl
  | e :: l => by
    have e1 : cat (e :: l) = ln e ++ 10 :: cat l := by rw [cat_cons, line]; simp
    rw [e1, lns_line _ _ (ln_no10 e), lns_cat l]
    rfl
def rev (x : List UInt8) : Event := RR (Lib.split x [32])
def rfin (s : List UInt8) (m : List Event) : Option (List Event × Int) := (lodgerref28_Put m).bind fun r3 => (bif (r3.2 != 0) then some ([], 2) else (bif (!(r3.1 == s)) then some ([], 2) else some (m, 0)))
theorem rGet_l (s : List UInt8) (hs : s.length ≤ 100000) : ∀ (n : Nat) (at_ i : Int) (m0 : List Event), (s.length : Int) - i < n → 0 ≤ at_ → at_ ≤ i → i ≤ s.length → m0.length ≤ i → lodgerref28_Get_l0 n s at_ i m0 = rfin s (m0 ++ (lns ((s.drop at_.toNat).take (i.toNat - at_.toNat)) (s.drop i.toNat)).map rev)
  | 0, at_, i, m0, hn, _, _, hi, _ => by omega
  | n + 1, at_, i, m0, hn, h0, h1, hi, hm => by
    rw [su0_lodgerref28_Get]
    unfold lodgerref28_Get_s0
    by_cases hlt : i < s.length
    · rw [ct (decide_eq_true hlt) rfl, bnd (geti_at (by omega) hlt) rfl, drop_at (l := s) (by omega) hlt]
      unfold lns
      by_cases hc : (s[i.toNat]'(by omega)) = 10
      · rw [ct (by rw [hc]; decide) rfl, ct (decide_eq_true ⟨h0, h1, hi⟩) rfl, bnd (one_eq (by rw [List.length_take, List.length_drop]; omega)) rfl, ct (decide_eq_true (by unfold maxList; simp; omega)) rfl, inc (by omega) (by omega), if_pos hc]
        rw [rGet_l s hs n (i + 1) (i + 1) _ (by omega) (by omega) (by omega) (by omega) (by simp; omega)]
        simp [rev]
      · rw [cf (by rw [beq_eq_false_iff_ne]; intro h; exact hc (UInt8.toNat_inj.1 (by show _ = 10; omega))) rfl, inc (by omega) (by omega), if_neg hc]
        rw [rGet_l s hs n at_ (i + 1) m0 (by omega) h0 (by omega) (by omega) (by omega)]
        rw [take_step h0 h1 hlt]
    · rw [cf (decide_eq_false hlt) rfl, drop_end (by omega) hlt]
      simp only [lns, List.map_nil, List.append_nil]
      rfl
theorem rGet_gr {s : List UInt8} (hs : s.length ≤ 100000) : ∃ r, lodgerref28_Get s = some r ∧ GR s r := by
  have h1 : lodgerref28_Get s = rfin s ((lns [] s).map rev) := by
    have e : lodgerref28_Get s = lodgerref28_Get_l0 big s 0 0 [] := rfl
    rw [e, rGet_l s hs big 0 0 [] (by unfold big; omega) (by omega) (by omega) (by omega) (by simp)]
    simp
  have hlen := lns_len s []
  have hu : ∀ e ∈ (lns [] s).map rev, UA e := fun e he => by
    obtain ⟨w, hw, rfl⟩ := List.mem_map.1 he
    have := hlen.2 w hw
    simp at this
    exact RR_UA (WB_split (by omega))
  have hback : ∀ l, GL l → cat l = s → (lns [] s).map rev = l := fun l hl hc => by
    rw [← hc, lns_cat, List.map_map]
    have : ∀ e ∈ l, (rev ∘ ln) e = e := fun e he => by
      show RR (Lib.split (ln e) [32]) = e
      rw [split_ln, RR_inv (hl e he).1 (hl e he).2]
    exact (List.map_congr_left this).trans (List.map_id l)
  have hle : ((lns [] s).map rev).length ≤ 100000 := by rw [List.length_map]; omega
  generalize (lns [] s).map rev = out at h1 hu hback hle
  cases ha : out.all evB with
  | false =>
    refine ⟨([], 2), ?_, .inr ⟨fun l hl hc => ?_, rfl⟩⟩
    · rw [h1]; exact bnd (rPut_bad hle ha) rfl
    · have := GL_all hl
      rw [← hback l hl hc, ha] at this
      exact absurd this (by decide)
  | true =>
    have hG := GL_of ha hu
    by_cases hc : cat out = s
    · refine ⟨(out, 0), ?_, .inl ⟨out, hG, hle, hc, rfl⟩⟩
      rw [h1]
      exact bnd (rPut_good hle hG) (cf rfl (cf (by simp [hc]) rfl))
    · refine ⟨([], 2), ?_, .inr ⟨fun l hl hl2 => hc ?_, rfl⟩⟩
      · rw [h1]
        exact bnd (rPut_good hle hG) (cf rfl (ct (by simp [hc]) rfl))
      · rw [hback l hl hl2]; exact hl2
end Go.Lv.Ld
