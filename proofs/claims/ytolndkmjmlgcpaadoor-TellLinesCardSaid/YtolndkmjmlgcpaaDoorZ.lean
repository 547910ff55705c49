import Derived.Test.YtolndkmjmlgcpaaDoorD
import Derived.Test.YtolndkmjmlgcpaaDoorY
namespace Go.Lv.Ld
set_option linter.all false
open Go Go.Lv Go.IntWalk
set_option linter.unusedVariables false
theorem args2 {a b : Ty} {cs : List (Cell S)} (h : ArgsOK E [a, b] cs) : ∃ x y, cs = [⟨a, x⟩, ⟨b, y⟩] ∧ WfV E a x ∧ WfV E b y := by
  obtain ⟨h1, h2⟩ := h
  obtain ⟨x, r1, rfl, q1⟩ := cut h1
  obtain ⟨y, r2, rfl, q2⟩ := cut q1
  obtain rfl := cutN q2
  exact ⟨x, y, rfl, h2 ⟨a, x⟩ (by simp), h2 ⟨b, y⟩ (by simp)⟩
theorem args3 {a b c : Ty} {cs : List (Cell S)} (h : ArgsOK E [a, b, c] cs) : ∃ x y z, cs = [⟨a, x⟩, ⟨b, y⟩, ⟨c, z⟩] ∧ WfV E a x ∧ WfV E b y ∧ WfV E c z := by
  obtain ⟨h1, h2⟩ := h
  obtain ⟨x, r1, rfl, q1⟩ := cut h1
  obtain ⟨y, r2, rfl, q2⟩ := cut q1
  obtain ⟨z, r3, rfl, q3⟩ := cut q2
  obtain rfl := cutN q3
  exact ⟨x, y, z, rfl, h2 ⟨a, x⟩ (by simp), h2 ⟨b, y⟩ (by simp), h2 ⟨c, z⟩ (by simp)⟩
theorem as_self {t : Ty} (x : den S t) : Cell.as (⟨t, x⟩ : Cell S) t = some x := by simp [Cell.as]
theorem run2_eq {R : Type} {a b : Ty} (F : den S a → den S b → Option R) (x0 : den S a) (x1 : den S b) : run2 a b F [⟨a, x0⟩, ⟨b, x1⟩] = F x0 x1 := by simp [run2, as_self]
theorem run3_eq {R : Type} {a b c : Ty} (F : den S a → den S b → den S c → Option R) (x0 : den S a) (x1 : den S b) (x2 : den S c) : run3 a b c F [⟨a, x0⟩, ⟨b, x1⟩, ⟨c, x2⟩] = F x0 x1 x2 := by simp [run3, as_self]
end Go.Lv.Ld
namespace Go.Lv.Ld
set_option linter.all false
open Go Go.Lv Go.IntWalk
set_option linter.unusedVariables false
set_option linter.unusedSimpArgs false
set_option maxRecDepth 100000
/-! Equal logs. -/
theorem Addrs_l (a b : List Int) (hb : a.length ≤ 1000000) (he : a.length = b.length) : ∀ (n : Nat) (i : Int), (a.length : Int) - i < n → 0 ≤ i → i ≤ a.length → ∃ r, lodgerref08_Addrs_l0 n a b i = some r ∧ (r = true ↔ a.drop i.toNat = b.drop i.toNat)
  | 0, i, hn, h0, hi => by omega
  | n + 1, i, hn, h0, hi => by
    rw [su0_lodgerref08_Addrs]
    unfold lodgerref08_Addrs_s0
    by_cases hlt : i < a.length
    · rw [ct (decide_eq_true hlt) rfl, bnd (geti_at h0 hlt) rfl, bnd (geti_at (l := b) h0 (by omega)) rfl, drop_at h0 hlt, drop_at (l := b) h0 (by omega)]
      by_cases hx : (a[i.toNat]'(by omega)) = b[i.toNat]'(by omega)
      · rw [cf (by simp [hx]) rfl, inc h0 (by omega), hx]
        obtain ⟨r, h1, h2⟩ := Addrs_l a b hb he n (i + 1) (by omega) (by omega) (by omega)
        exact ⟨r, h1, by rw [h2, List.cons.injEq, and_iff_right rfl]⟩
      · rw [ct (by simp [hx]) rfl]
        exact ⟨false, rfl, by simp [hx]⟩
    · rw [cf (decide_eq_false hlt) rfl, drop_end h0 hlt, drop_end (l := b) h0 (by omega)]
      exact ⟨true, rfl, by simp⟩
theorem Addrs_eq {a b : List Int} (hb : a.length ≤ 1000000) : ∃ r, lodgerref08_Addrs a b = some r ∧ (r = true ↔ a = b) := by
  have h1 : lodgerref08_Addrs a b = lodgerref08_Addrs_e (lodgerref08_Addrs_l0 big) a b := rfl
  rw [h1]
  unfold lodgerref08_Addrs_e
  by_cases he : a.length = b.length
  · rw [cf (by simp [he]) rfl]
    exact Addrs_l a b hb he big 0 (by unfold big; omega) (by omega) (by omega)
  · rw [ct (by simp; omega) rfl]
    exact ⟨false, rfl, by simp; intro h; exact he (congrArg List.length h)⟩
theorem Errs_l (a b : List Int) (hb : a.length ≤ 1000000) (he : a.length = b.length) : ∀ (n : Nat) (i : Int), (a.length : Int) - i < n → 0 ≤ i → i ≤ a.length → ∃ r, lodgerref08_Errs_l0 n a b i = some r ∧ (r = true ↔ a.drop i.toNat = b.drop i.toNat)
  | 0, i, hn, h0, hi => by omega
  | n + 1, i, hn, h0, hi => by
    rw [su0_lodgerref08_Errs]
    unfold lodgerref08_Errs_s0
    by_cases hlt : i < a.length
    · rw [ct (decide_eq_true hlt) rfl, bnd (geti_at h0 hlt) rfl, bnd (geti_at (l := b) h0 (by omega)) rfl, drop_at h0 hlt, drop_at (l := b) h0 (by omega)]
      by_cases hx : (a[i.toNat]'(by omega)) = b[i.toNat]'(by omega)
      · rw [cf (by simp [hx]) rfl, inc h0 (by omega), hx]
        obtain ⟨r, h1, h2⟩ := Errs_l a b hb he n (i + 1) (by omega) (by omega) (by omega)
        exact ⟨r, h1, by rw [h2, List.cons.injEq, and_iff_right rfl]⟩
      · rw [ct (by simp [hx]) rfl]
        exact ⟨false, rfl, by simp [hx]⟩
    · rw [cf (decide_eq_false hlt) rfl, drop_end h0 hlt, drop_end (l := b) h0 (by omega)]
      exact ⟨true, rfl, by simp⟩
theorem Errs_eq {a b : List Int} (hb : a.length ≤ 1000000) : ∃ r, lodgerref08_Errs a b = some r ∧ (r = true ↔ a = b) := by
  have h1 : lodgerref08_Errs a b = lodgerref08_Errs_e (lodgerref08_Errs_l0 big) a b := rfl
  rw [h1]
  unfold lodgerref08_Errs_e
  by_cases he : a.length = b.length
  · rw [cf (by simp [he]) rfl]
    exact Errs_l a b hb he big 0 (by unfold big; omega) (by omega) (by omega)
  · rw [ct (by simp; omega) rfl]
    exact ⟨false, rfl, by simp; intro h; exact he (congrArg List.length h)⟩
def AB (a : Answer) : Prop := a.addrs.length ≤ 1000000 ∧ a.errs.length ≤ 1000000
theorem Answers_eq {a b : Answer} (h : AB a) : ∃ r, lodgerref08_Answers a b = some r ∧ (r = true ↔ a = b) := by
  unfold lodgerref08_Answers
  obtain ⟨r1, h1, h2⟩ := Addrs_eq (b := b.addrs) h.1
  obtain ⟨r2, h3, h4⟩ := Errs_eq (b := b.errs) h.2
  obtain ⟨ae, aa, au, al, am⟩ := a
  obtain ⟨be, ba, bu, bl, bm⟩ := b
  simp only at h1 h2 h3 h4 ⊢
  simp only [Answer.mk.injEq]
  by_cases c1 : ae = be
  · by_cases c2 : aa = ba
    · by_cases c3 : au = bu
      · cases r1 with
        | true =>
          refine ⟨r2, ct (by simp [c1]) (ct (by simp [c2]) (ct (by simp [c3]) (bnd h1 (ct rfl (bnd h3 rfl))))), ?_⟩
          rw [h4]
          exact ⟨fun h => ⟨c1, c2, c3, h2.1 rfl, h⟩, fun h => h.2.2.2.2⟩
        | false =>
          refine ⟨false, ct (by simp [c1]) (ct (by simp [c2]) (ct (by simp [c3]) (bnd h1 rfl))), ?_⟩
          exact ⟨fun h => absurd h (by decide), fun h => h2.2 h.2.2.2.1⟩
      · exact ⟨false, ct (by simp [c1]) (ct (by simp [c2]) (cf (by simp [c3]) rfl)), fun h => absurd h (by decide), fun h => absurd h.2.2.1 c3⟩
    · exact ⟨false, ct (by simp [c1]) (cf (by simp [c2]) rfl), fun h => absurd h (by decide), fun h => absurd h.2.1 c2⟩
  · exact ⟨false, cf (by simp [c1]) rfl, fun h => absurd h (by decide), fun h => absurd h.1 c1⟩
theorem Events_l (a b : List Event) (hb : a.length ≤ 1000000) (hA : ∀ e ∈ a, AB e.answer) (he : a.length = b.length) : ∀ (n : Nat) (i : Int), (a.length : Int) - i < n → 0 ≤ i → i ≤ a.length → ∃ r, lodgerref22_Events_l0 n a b i = some r ∧ (r = true ↔ a.drop i.toNat = b.drop i.toNat)
  | 0, i, hn, h0, hi => by omega
  | n + 1, i, hn, h0, hi => by
    rw [su0_lodgerref22_Events]
    unfold lodgerref22_Events_s0
    by_cases hlt : i < a.length
    · rw [ct (decide_eq_true hlt) rfl, bnd (geti_at h0 hlt) rfl, bnd (geti_at (l := b) h0 (by omega)) rfl, drop_at h0 hlt, drop_at (l := b) h0 (by omega)]
      have hm := hA _ (List.getElem_mem (n := i.toNat) (h := by omega))
      obtain ⟨r, h1, h2⟩ := Events_l a b hb hA he n (i + 1) (by omega) (by omega) (by omega)
      generalize a[i.toNat]'(by omega) = x at hm ⊢
      generalize b[i.toNat]'(by omega) = y
      obtain ⟨r3, h3, h4⟩ := Answers_eq (b := y.answer) hm
      rw [inc h0 (by omega)]
      simp only [List.cons.injEq]
      obtain ⟨xk, xc, xa, xi, xt, xn⟩ := x
      obtain ⟨yk, yc, ya, yi, yt, yy⟩ := y
      simp only at h3 h4 ⊢
      simp only [Event.mk.injEq]
      by_cases c1 : xk = yk
      · by_cases c2 : xc = yc
        · by_cases c3 : xa = ya
          · by_cases c4 : xi = yi
            · by_cases c5 : xt = yt
              · cases r3 with
                | true =>
                  refine ⟨r, cf (by simp [c1]) (cf (by simp [c2]) (cf (by simp [c3]) (cf (by simp [c4]) (cf (by simp [c5]) (bnd h3 (cf rfl h1)))))), ?_⟩
                  rw [h2]
                  exact ⟨fun h => ⟨⟨c1, c2, c3, c4, c5, h4.1 rfl⟩, h⟩, fun h => h.2⟩
                | false =>
                  refine ⟨false, cf (by simp [c1]) (cf (by simp [c2]) (cf (by simp [c3]) (cf (by simp [c4]) (cf (by simp [c5]) (bnd h3 rfl))))), fun h => absurd h (by decide), fun h => h4.2 h.1.2.2.2.2.2⟩
              · exact ⟨false, cf (by simp [c1]) (cf (by simp [c2]) (cf (by simp [c3]) (cf (by simp [c4]) (ct (by simp [c5]) rfl)))), fun h => absurd h (by decide), fun h => absurd h.1.2.2.2.2.1 c5⟩
            · exact ⟨false, cf (by simp [c1]) (cf (by simp [c2]) (cf (by simp [c3]) (ct (by simp [c4]) rfl))), fun h => absurd h (by decide), fun h => absurd h.1.2.2.2.1 c4⟩
          · exact ⟨false, cf (by simp [c1]) (cf (by simp [c2]) (ct (by simp [c3]) rfl)), fun h => absurd h (by decide), fun h => absurd h.1.2.2.1 c3⟩
        · exact ⟨false, cf (by simp [c1]) (ct (by simp [c2]) rfl), fun h => absurd h (by decide), fun h => absurd h.1.2.1 c2⟩
      · exact ⟨false, ct (by simp [c1]) rfl, fun h => absurd h (by decide), fun h => absurd h.1.1 c1⟩
    · rw [cf (decide_eq_false hlt) rfl, drop_end h0 hlt, drop_end (l := b) h0 (by omega)]
      exact ⟨true, rfl, by simp⟩
theorem Events_eq {a b : List Event} (hb : a.length ≤ 1000000) (hA : ∀ e ∈ a, AB e.answer) : ∃ r, lodgerref22_Events a b = some r ∧ (r = true ↔ a = b) := by
  have h1 : lodgerref22_Events a b = lodgerref22_Events_e (lodgerref22_Events_l0 big) a b := rfl
  rw [h1]
  unfold lodgerref22_Events_e
  by_cases he : a.length = b.length
  · rw [cf (by simp [he]) rfl]
    exact Events_l a b hb hA he big 0 (by unfold big; omega) (by omega) (by omega)
  · rw [ct (by simp; omega) rfl]
    exact ⟨false, rfl, by simp; intro h; exact he (congrArg List.length h)⟩
theorem GL_AB {l : List Event} (h : GL l) : ∀ e ∈ l, AB e.answer := fun e he => by
  obtain ⟨_, _, _, _, _, _, h6, h7, _⟩ := ev_parts (h e he).1
  exact ⟨by omega, by omega⟩
theorem Events_self {l : List Event} (hb : l.length ≤ 1000000) (h : GL l) : lodgerref22_Events l l = some true := by
  obtain ⟨r, h1, h2⟩ := Events_eq (b := l) hb (GL_AB h)
  rw [h1, h2.2 rfl]
/-! The laws' events. -/
theorem lit_in {k : IntKind} {n : Int} (h : (Lit.int k n).wf = true) : k.min ≤ n ∧ n ≤ k.max := by
  simpa [Lit.wf] using h
theorem w_int {k : IntKind} {n : Int} (h : Wf E (.int k) n) : k.min ≤ n ∧ n ≤ k.max := by
  cases h with
  | int _ _ h => exact lit_in h
theorem w_u32 {n : Int} (h : Wf E u32 n) : U32 n := by
  obtain ⟨h1, h2⟩ := w_int (k := .u32) h
  have e1 : IntKind.min .u32 = 0 := by decide
  have e2 : IntKind.max .u32 = 4294967295 := by decide
  unfold U32; omega
theorem a_u8 {n : Int} (h : WfV E (.int .u8) n) : 0 ≤ n ∧ n ≤ 255 := by
  have h0 : Wf E (.int .u8) n := h 0 ⟨.int .u8, n⟩ rfl
  obtain ⟨h1, h2⟩ := w_int (k := .u8) h0
  have e1 : IntKind.min .u8 = 0 := by decide
  have e2 : IntKind.max .u8 = 255 := by decide
  omega
theorem w_u32s {l : List Int} (h : Wf E (.slice u32) l) : ∀ a ∈ l, U32 a := by
  cases h with
  | slice _ _ hl h =>
    intro a ha
    obtain ⟨i, hi⟩ := List.mem_iff_getElem?.1 ha
    exact w_u32 (h i a hi 0 ⟨u32, a⟩ rfl)
theorem a_ev {e : Event} (h : WfV E (.st 6) e) : UA e := ⟨w_u32 (h 6 ⟨u32, e.answer.addr⟩ rfl), w_u32s (h 8 ⟨.slice u32, e.answer.addrs⟩ rfl)⟩
theorem a_evs {l : List Event} (h : WfV E (.slice (.st 6)) l) : ∀ e ∈ l, UA e := by
  have h0 := h 0 ⟨.slice (.st 6), l⟩ rfl
  cases h0 with
  | slice _ _ hl h =>
    intro e he
    obtain ⟨i, hi⟩ := List.mem_iff_getElem?.1 he
    exact a_ev (h i e hi)
/-! Answers that the document fixes. -/
def ev1 : Event := ⟨1, 0, 0, 0, 0, ⟨0, 0, false, [], []⟩⟩
def ev2 : Event := ⟨3, 1, 2, 0, 0, ⟨0, 167772161, true, [1], [0, 6]⟩⟩
def ev0 : Event := ⟨0, 0, 0, 0, 0, ⟨0, 0, false, [], []⟩⟩
theorem gl12 : GL [ev1, ev2] := fun e he => by
  simp only [List.mem_cons, List.not_mem_nil, or_false] at he
  rcases he with rfl | rfl
  · exact ⟨by decide, by unfold U32 ev1; decide, by simp [ev1]⟩
  · refine ⟨by decide, by unfold U32 ev2; decide, fun a ha => ?_⟩
    have : a = 1 := by simpa [ev2] using ha
    subst this
    unfold U32; decide
theorem bad0 : List.all [ev0] evB = false := by decide
theorem N0 : N 0 = [48] := D_small (by decide)
theorem N1 : N 1 = [49] := D_small (by decide)
theorem N2 : N 2 = [50] := D_small (by decide)
theorem N3 : N 3 = [51] := D_small (by decide)
theorem N6 : N 6 = [54] := D_small (by decide)
theorem D0 : D 0 = [48] := D_small (by decide)
theorem T0 : T 0 = [48, 46, 48, 46, 48, 46, 48] := by
  rw [T, show (0 : Int).toNat = 0 from rfl, tx_of (a := 0) (b3 := 0) (b2 := 0) (b1 := 0) (b0 := 0) rfl (by decide) (by decide) (by decide), D0]; rfl
theorem T1 : T 1 = [48, 46, 48, 46, 48, 46, 49] := tx_lit4
theorem T10 : T 167772161 = [49, 48, 46, 48, 46, 48, 46, 49] := by
  rw [T, show (167772161 : Int).toNat = 167772161 from rfl, tx_of (a := 167772161) (b3 := 10) (b2 := 0) (b1 := 0) (b0 := 1) rfl (by decide) (by decide) (by decide), D0, D2 (by decide) (by decide), D_small (u := 1) (by decide)]; rfl
theorem cat12 : cat [ev1, ev2] = [49, 32, 48, 32, 48, 32, 48, 32, 48, 32, 48, 32, 48, 46, 48, 46, 48, 46, 48, 32, 110, 111, 32, 97, 100, 100, 114, 115, 32, 101, 114, 114, 115, 10, 51, 32, 49, 32, 50, 32, 48, 32, 48, 32, 48, 32, 49, 48, 46, 48, 46, 48, 46, 49, 32, 121, 101, 115, 32, 97, 100, 100, 114, 115, 32, 48, 46, 48, 46, 48, 46, 49, 32, 101, 114, 114, 115, 32, 48, 32, 54, 10] := by
  have e1 : line ev1 = (N 1 ++ sp [N 0, N 0, N 0, N 0, N 0, T 0, yn false, AD, ER]) ++ [10] := rfl
  have e2 : line ev2 = (N 3 ++ sp [N 1, N 2, N 0, N 0, N 0, T 167772161, yn true, AD, T 1, ER, N 0, N 6]) ++ [10] := rfl
  rw [cat_cons, cat_cons, cat_nil, e1, e2, N0, N1, N2, N3, N6, T0, T1, T10]
  rfl
theorem cat_end : ∀ l : List Event, cat l = [] ∨ ∃ x, cat l = x ++ [10]
  | [] => .inl rfl
  | e :: l => by
    rcases cat_end l with h | ⟨x, h⟩
    · exact .inr ⟨ln e, by rw [cat_cons, h, List.append_nil]; rfl⟩
    · exact .inr ⟨line e ++ x, by rw [cat_cons, h, List.append_assoc]⟩
theorem Get_x : tell_Get (cat [ev1, ev2] ++ [120]) = some ([], 2) := by
  obtain ⟨r, h1, h2⟩ := Get_gr (s := cat [ev1, ev2] ++ [120]) (by rw [cat12]; decide)
  rcases h2 with ⟨l, _, _, hc, _⟩ | ⟨_, rfl⟩
  · rcases cat_end l with h | ⟨x, h⟩
    · rw [h] at hc
      exact absurd hc (by simp)
    · rw [h] at hc
      have := (List.append_inj' hc rfl).2
      exact absurd this (by decide)
  · exact h1
theorem Of_1 : tell_Of [ev1, ev2] 1 = some [ev2.answer] := by kernel_rfl
theorem Of_0 : tell_Of [ev1, ev2] 0 = some [] := by kernel_rfl
theorem awake28 : lodgerlaw28_awake = some true := by
  unfold lodgerlaw28_awake
  have p1 := Put_good (l := [ev1, ev2]) (by decide) gl12
  have p2 := Get_good (l := [ev1, ev2]) (by decide) gl12
  have p3 := Get_x
  have p4 := Put_bad (l := [ev0]) (by decide) bad0
  have p6 := Events_self (l := [ev1, ev2]) (by decide) gl12
  have p7 : tell_May [ev1, ev2] = some true := (May_all _ (by decide)).trans (congrArg some (GL_all gl12))
  have p8 : tell_May [ev0] = some false := (May_all _ (by decide)).trans (congrArg some bad0)
  refine bnd p1 (bnd p2 (ct (by rw [cat12]; decide) (bnd p3 (bnd p4 (bnd Of_1 ?_)))))
  refine ct (by rw [cat12]; decide) (ct rfl (ct rfl (bnd p6 (ct rfl (ct rfl (ct rfl (bnd p7 (ct rfl (bnd p8 (ct rfl (ct rfl (bnd rfl (ct rfl (bnd Of_0 rfl))))))))))))))
end Go.Lv.Ld
namespace Go.Lv.Ld
set_option linter.all false
open Go Go.Lv Go.IntWalk
set_option linter.unusedVariables false
set_option linter.unusedSimpArgs false
set_option maxRecDepth 100000
/-! The laws. -/
theorem aw {x : Option Bool} (h : x = some true) : (lodgerlaw28_awake.bind fun r1 => (bif (not r1) then (lodgerlaw28_awake.bind fun r2 => some r2) else x)) = some true := by
  rw [awake28]; exact h
theorem awt : (lodgerlaw28_awake.bind fun r2 => some r2) = some true := by rw [awake28]; rfl
theorem fewB {l : List Event} {x : Option Bool} (h : l.length ≤ 150 → x = some true) : ((lodgerref28_Few l).bind fun r3 => (bif (not r3) then (lodgerlaw28_awake.bind fun r4 => some r4) else x)) = some true := by
  obtain ⟨r, h1, h2⟩ := Few_some l
  refine bnd h1 ?_
  cases r with
  | false => exact ct rfl awt
  | true => exact cf rfl (h (h2 rfl))
theorem condB {c : Bool} {x : Option Bool} (h : c = false → x = some true) : (bif c then (lodgerlaw28_awake.bind fun r4 => some r4) else x) = some true := by
  cases c with
  | true => exact ct rfl awt
  | false => exact cf rfl (h rfl)
theorem GR_len {s : List UInt8} {r : List Event × Int} (h : GR s r) : GL r.1 ∧ r.1.length ≤ 100000 := by
  rcases h with ⟨l, hg, hl, _, rfl⟩ | ⟨_, rfl⟩
  · exact ⟨hg, hl⟩
  · exact ⟨fun e he => by simp at he, by simp⟩
theorem pure_TellPuts (l : List Event) (text : List UInt8) (hl : WfV E (.slice (.st 6)) l) (ht : WfV E .str text) : lodgerlaw28_TellPuts l text = some true := by
  have hU := a_evs hl
  unfold lodgerlaw28_TellPuts
  refine aw (fewB fun hf => condB fun h3 => ?_)
  have h3' : (List.length text : Int) ≤ 3000 := by have := of_decide_eq_false h3; omega
  obtain ⟨r8, h8, g8⟩ := Get_gr (s := text) (by omega)
  obtain ⟨r9, h9, g9⟩ := rGet_gr (s := text) (by omega)
  obtain rfl := GR_uniq g8 g9
  have hM := May_all l (by omega)
  have hR := rMay_all l (by omega)
  have hE := Events_self (l := r8.1) (by have := (GR_len g8).2; omega) (GR_len g8).1
  have fin : ∃ r, tell_Put l = some r ∧ lodgerref28_Put l = some r := by
    cases ha : l.all evB with
    | true => exact ⟨_, Put_good (by omega) (GL_of ha hU), rPut_good (by omega) (GL_of ha hU)⟩
    | false => exact ⟨_, Put_bad (by omega) ha, rPut_bad (by omega) ha⟩
  obtain ⟨r, p1, p2⟩ := fin
  refine bnd p1 (bnd p2 (bnd h8 (bnd h9 (bnd hM (bnd hR (ct (by simp) (ct (by simp) (ct (by simp) (bnd hE (ct rfl ?_))))))))))
  simp
theorem tl_ok {s : List UInt8} (hs : s.length ≤ 100000) : ((tell_Get s).bind fun r15 => ((tell_Put r15.1).bind fun r16 => (bif (r15.2 != 0) then (bif ((List.length r15.1 : Int) == 0) then some true else (bif (r15.2 == 0) then (bif (r16.2 == 0) then some (r16.1 == s) else some false) else some false)) else (bif (r15.2 == 0) then (bif (r16.2 == 0) then some (r16.1 == s) else some false) else some false)))) = some true := by
  obtain ⟨r, h1, h2⟩ := Get_gr hs
  rcases h2 with ⟨l, hg, hl, hc, rfl⟩ | ⟨_, rfl⟩
  · refine bnd h1 (bnd (Put_good (by simp only; omega) hg) (cf rfl (ct rfl (ct rfl ?_))))
    simp [hc]
  · exact bnd h1 (bnd (Put_good (l := []) (by simp) (fun e he => by simp at he)) (ct rfl (ct rfl rfl)))
theorem pure_TellBack (l m : List Event) (text : List UInt8) (hl : WfV E (.slice (.st 6)) l) (hm : WfV E (.slice (.st 6)) m) (ht : WfV E .str text) : lodgerlaw28_TellBack l m text = some true := by
  have hU := a_evs hl
  have hV := a_evs hm
  unfold lodgerlaw28_TellBack
  refine aw (fewB fun hf => fewB fun hf2 => condB fun h3 => ?_)
  have h3' : (List.length text : Int) ≤ 3000 := by have := of_decide_eq_false h3; omega
  have tl := tl_ok (s := text) (by omega)
  cases ha : l.all evB with
  | true =>
    have hG := GL_of ha hU
    have hE := Events_self (by omega) hG
    cases hb : m.all evB with
    | true =>
      have hH := GL_of hb hV
      have hc := cat_len hG
      have hd := cat_len hH
      obtain ⟨r, h1, h2⟩ := Events_eq (a := l) (b := m) (by omega) (GL_AB hG)
      have hr : (cat l == cat m) = r := by
        cases r with
        | true => rw [h2.1 rfl]; simp
        | false =>
          rw [beq_eq_false_iff_ne]
          intro h
          exact absurd (h2.2 (cat_inj (by omega) (by omega) hG hH h)) (by decide)
      have hget : tell_Get (cat l ++ cat m) = some (l ++ m, 0) := by
        rw [← cat_app]
        exact Get_good (by simp; omega) (GL_app hG hH)
      have hq : (!((cat l == cat m) == r)) = false := by rw [hr]; simp
      refine bnd (Put_good (by omega) hG) (bnd (Put_good (by omega) hH) (ct rfl (bnd (Get_good (by omega) hG) (cf rfl (bnd hE (cf rfl (ct rfl (bnd h1 (cf hq (ct rfl (ct rfl (ct (decide_eq_true (by simp only; omega)) (bnd hget ?_)))))))))))))
      exact cf rfl (ct (decide_eq_true (by unfold maxList; omega)) (ct (decide_eq_true (by unfold maxList; omega)) (bnd (Events_self (by simp; omega) (GL_app hG hH)) (cf rfl tl))))
    | false =>
      exact bnd (Put_good (by omega) hG) (bnd (Put_bad (by omega) hb) (ct rfl (bnd (Get_good (by omega) hG) (cf rfl (bnd hE (cf rfl (cf rfl (ct rfl (cf rfl tl)))))))))
  | false =>
    cases hb : m.all evB with
    | true => exact bnd (Put_bad (by omega) ha) (bnd (Put_good (by omega) (GL_of hb hV)) (cf rfl (cf rfl tl)))
    | false => exact bnd (Put_bad (by omega) ha) (bnd (Put_bad (by omega) hb) (cf rfl (cf rfl tl)))
/-! Lines. -/
theorem cnt_ln (e : Event) : List.count 10 (ln e) = 0 := List.count_eq_zero.2 (ln_no10 e)
theorem cnt_cat : ∀ l : List Event, List.count 10 (cat l) = l.length
  | [] => rfl
  | e :: l => by
    rw [cat_cons, line, List.count_append, List.count_append, cnt_ln, cnt_cat l, List.length_cons]
    simp
    omega
theorem mayB {l : List Event} (hl : l.length ≤ 1000000) {x : Option Bool} (h : l.all evB = true → x = some true) : ((lodgerref28_May l).bind fun r7 => (bif (not r7) then (lodgerlaw28_awake.bind fun r8 => some r8) else x)) = some true := by
  refine bnd (rMay_all l (by omega)) ?_
  exact condB fun hc => h (by simpa using hc)
theorem Lines_l (l : List Event) (e : Event) (hl : l.length ≤ 1000) (hG : GL (l ++ [e])) : ∀ (n : Nat) (i c : Int), ((cat l).length : Int) - i < n → 0 ≤ i → i ≤ (cat l).length → 0 ≤ c → c ≤ i → c + List.count 10 ((cat l).drop i.toNat) = l.length → lodgerlaw28_TellLines_l0 n l (cat l) (cat l ++ line e) 0 c i e = some true
  | 0, i, c, hn, h0, hi, hc0, hci, hc => by omega
  | n + 1, i, c, hn, h0, hi, hc0, hci, hc => by
    have hGl : GL l := fun x hx => hG x (by simp [hx])
    have he := hG e (by simp)
    have hlen := cat_len hGl
    have hln := ln_len he.1 he.2
    have hle : (line e).length = (ln e).length + 1 := by unfold line; simp
    rw [su0_lodgerlaw28_TellLines]
    unfold lodgerlaw28_TellLines_s0
    by_cases hlt : i < (cat l).length
    · rw [drop_at h0 hlt, List.count_cons] at hc
      rw [ct (decide_eq_true hlt) rfl, bnd (geti_at h0 hlt) rfl, inc h0 (by omega)]
      by_cases h10 : ((cat l)[i.toNat]'(by omega)) = 10
      · rw [ct (by rw [h10]; decide) rfl, inc hc0 (by omega)]
        rw [h10] at hc
        exact Lines_l l e hl hG n (i + 1) (c + 1) (by omega) (by omega) (by omega) (by omega) (by omega) (by simp at hc; omega)
      · rw [cf (by rw [beq_eq_false_iff_ne]; intro h; exact h10 (UInt8.toNat_inj.1 (by show _ = 10; omega))) rfl]
        rw [if_neg (by simp [h10])] at hc
        exact Lines_l l e hl hG n (i + 1) c (by omega) (by omega) (by omega) (by omega) (by omega) (by omega)
    · rw [drop_end h0 hlt] at hc
      simp at hc
      have hT : ((cat l ++ line e).length : Int) = (cat l).length + (ln e).length + 1 := by rw [List.length_append, hle]; omega
      have hp : 1 ≤ (ln e).length := by
        have := ln_ne e
        cases hx : ln e with
        | nil => exact absurd hx this
        | cons a r => simp
      have hw : IntKind.wrap .i64 (((cat l ++ line e).length : Int) - 1) = (cat l).length + (ln e).length := by
        rw [hT, i64_in _ ⟨by omega, by omega⟩]; omega
      have e1 : ((cat l ++ line e).drop (Int.toNat 0)).take (Int.toNat ((cat l).length : Int) - Int.toNat 0) = cat l := by
        have : Int.toNat ((cat l).length : Int) - Int.toNat 0 = (cat l).length := by simp
        rw [this]; simp
      have e2 : ((cat l ++ line e).drop (Int.toNat 0)).take (Int.toNat (((cat l).length : Int) + (ln e).length) - Int.toNat 0) = cat l ++ ln e := by
        have h1 : Int.toNat (((cat l).length : Int) + (ln e).length) - Int.toNat 0 = (cat l ++ ln e).length := by simp; omega
        have h2 : cat l ++ line e = (cat l ++ ln e) ++ [10] := by unfold line; simp
        rw [h1, h2]
        exact List.take_left' rfl
      have e3 : ((cat l ++ line e).drop (Int.toNat ((cat l).length : Int))).take (Int.toNat ((cat l ++ line e).length : Int) - Int.toNat ((cat l).length : Int)) = cat [e] := by
        have h1 : Int.toNat ((cat l).length : Int) = (cat l).length := by omega
        have h2 : Int.toNat ((cat l ++ line e).length : Int) - (cat l).length = (line e).length := by rw [hT, hle]; omega
        rw [h1, h2, List.drop_left, List.take_length, cat_cons, cat_nil, List.append_nil]
      have hGe : GL [e] := fun x hx => by rw [List.mem_singleton.1 hx]; exact he
      rw [hw, e1, e2, e3]
      refine cf (decide_eq_false hlt) (cf ?_ (cf rfl (cf (decide_eq_false (by omega)) (ct (decide_eq_true ⟨by omega, by omega, by omega⟩) (cf (by simp) (ct (decide_eq_true ⟨by omega, by omega, by omega⟩) (bnd (Get_cut (by omega) hG) (ct (decide_eq_true ⟨by omega, by omega, by omega⟩) (bnd (Get_good (by simp) hGe) (ct rfl (ct rfl (ct rfl (bnd (Events_self (by simp) hGe) rfl)))))))))))))
      simp; omega
theorem pure_TellLines (l : List Event) (e : Event) (hl : WfV E (.slice (.st 6)) l) (he : WfV E (.st 6) e) : lodgerlaw28_TellLines l e = some true := by
  have hU := a_evs hl
  have hV := a_ev he
  have h1 : lodgerlaw28_TellLines l e = lodgerlaw28_TellLines_e (lodgerlaw28_TellLines_l0 big) l e := rfl
  rw [h1]
  unfold lodgerlaw28_TellLines_e
  refine aw (fewB fun hf => fewB fun hf2 => mayB (by omega) fun ha => mayB (by simp) fun hb => ?_)
  have hG := GL_of ha hU
  have hGe : GL [e] := GL_of hb fun x hx => by rw [List.mem_singleton.1 hx]; exact hV
  have hc := cat_len hG
  have hA := GL_app hG hGe
  have e1 : cat (l ++ [e]) = cat l ++ line e := by rw [cat_app, cat_cons, cat_nil, List.append_nil]
  refine bnd (Put_good (by omega) hG) (ct (decide_eq_true (by unfold maxList; omega)) (ct (decide_eq_true (by unfold maxList; simp; omega)) (bnd (Put_good (by simp; omega) hA) ?_)))
  show lodgerlaw28_TellLines_l0 big l (cat l) (cat (l ++ [e])) 0 0 0 e = some true
  rw [e1]
  exact Lines_l l e (by omega) hA big 0 0 (by unfold big; omega) (by omega) (by omega) (by omega) (by omega) (by rw [show (0 : Int).toNat = 0 from rfl, List.drop_zero, cnt_cat]; omega)
/-! Fields. -/
theorem evB_mk {e : Event} (h1 : 1 ≤ e.kind ∧ e.kind ≤ 3) (h2 : F40 e.client) (h3 : F40 e.ask) (h4 : F40 e.item) (h5 : F40 e.at_) (h6 : 0 ≤ e.answer.err ∧ e.answer.err ≤ 12) (h7 : e.answer.addrs.length ≤ 300) (h8 : e.answer.errs.length ≤ 300) (h9 : ∀ x ∈ e.answer.errs, 0 ≤ x ∧ x ≤ 12) : evB e = true := by
  unfold F40 at h2 h3 h4 h5
  unfold evB fitB errB
  simp only [Bool.and_eq_true, decide_eq_true_eq, List.all_eq_true]
  exact ⟨by omega, by omega, by omega, by omega, by omega, by omega, by omega, by omega, by omega, h9⟩
theorem Put_one {e : Event} (h : evB e = true) (hu : UA e) : tell_Put [e] = some (cat [e], 0) :=
  Put_good (by simp) fun x hx => by rw [List.mem_singleton.1 hx]; exact ⟨h, hu⟩
theorem fld {e x : Event} (he : evB e = true) (hu : UA e) (hx : evB x = true) (hv : UA x) (hne : x ≠ e) (c1 : Bool) (c2 : Bool) (hc1 : c1 = true) (hc2 : c2 = true) :
    ((tell_Put [x]).bind fun r14 => (bif c1 then (bif c2 then ((tell_Put [e]).bind fun r15 => (bif (r14.2 == 0) then (bif (!(r14.1 == (cat [e], (0 : Int)).1)) then (bif (r15.2 == 0) then some (r15.1 == (cat [e], (0 : Int)).1) else some false) else some false) else some false)) else none) else none)) = some true := by
  refine bnd (Put_one hx hv) (ct hc1 (ct hc2 (bnd (Put_one he hu) (ct rfl (ct ?_ (ct rfl ?_))))))
  · show (!(cat [x] == cat [e])) = true
    rw [Bool.not_eq_true', beq_eq_false_iff_ne]
    intro h
    have := cat_inj (by simp) (by simp) (fun y hy => by rw [List.mem_singleton.1 hy]; exact ⟨hx, hv⟩) (fun y hy => by rw [List.mem_singleton.1 hy]; exact ⟨he, hu⟩) h
    exact hne (List.cons.inj this).1
  · simp
theorem pure_TellFields (e : Event) (w : Int) (he : WfV E (.st 6) e) (hw : WfV E (.int .u8) w) : lodgerlaw28_TellFields e w = some true := by
  have hV := a_ev he
  have hw8 := a_u8 hw
  unfold lodgerlaw28_TellFields
  refine aw (fewB fun hf => mayB (by simp) fun hb => condB fun k1 => condB fun k2 => condB fun k3 => condB fun k4 => condB fun k5 => condB fun k6 => ?_)
  have hE : evB e = true := (GL_of hb (fun x hx => by rw [List.mem_singleton.1 hx]; exact hV) e (by simp)).1
  obtain ⟨h1, h2, h3, h4, h5, h6, h7, h8, h9⟩ := ev_parts hE
  have k1 := beq_eq_false_iff_ne.1 k1
  have k2 := beq_eq_false_iff_ne.1 k2
  have k3 := beq_eq_false_iff_ne.1 k3
  have k4 := beq_eq_false_iff_ne.1 k4
  have k5 := of_decide_eq_false k5
  have k6 := of_decide_eq_false k6
  refine bnd (Put_one hE hV) ?_
  have m1 : decide (e.answer.addrs.length ≤ maxList) = true := decide_eq_true (by unfold maxList; omega)
  have m2 : decide (e.answer.errs.length ≤ maxList) = true := decide_eq_true (by unfold maxList; omega)
  have e9 : Int.tmod w 9 = w % 9 := Int.tmod_eq_emod_of_nonneg (by omega)
  have e3 : Int.tmod e.kind 3 = e.kind % 3 := Int.tmod_eq_emod_of_nonneg (by omega)
  have e13 : Int.tmod (IntKind.wrap .i64 (e.answer.err + 1)) 13 = (e.answer.err + 1) % 13 := by
    rw [inc (by omega) (by omega)]; exact Int.tmod_eq_emod_of_nonneg (by omega)
  rw [e9, e3, e13]
  have F2 := h2
  have F3 := h3
  have F4 := h4
  have F5 := h5
  unfold F40 at F2 F3 F4 F5
  by_cases q0 : w % 9 = 0
  · have ek : IntKind.wrap .i64 (1 + e.kind % 3) = 1 + e.kind % 3 := i64_in _ ⟨by omega, by omega⟩
    refine ct (by simp [q0]) (fld hE hV ?_ ?_ ?_ _ _ m1 m2)
    · refine evB_mk ?_ h2 h3 h4 h5 h6 h7 h8 h9
      show 1 ≤ IntKind.wrap .i64 (1 + e.kind % 3) ∧ IntKind.wrap .i64 (1 + e.kind % 3) ≤ 3
      rw [ek]; omega
    · exact hV
    · intro h
      have := congrArg Event.kind h
      simp only at this
      rw [ek] at this
      omega
  refine cf (by simp [q0]) ?_
  by_cases q1 : w % 9 = 1
  · refine ct (by simp [q1]) (fld hE hV ?_ ?_ ?_ _ _ m1 m2)
    · refine evB_mk h1 ?_ h3 h4 h5 h6 h7 h8 h9
      show F40 (IntKind.wrap .i64 (e.client + 1))
      rw [inc (by omega) (by omega)]; unfold F40; omega
    · exact hV
    · intro h
      have := congrArg Event.client h
      simp only at this
      rw [inc (by omega) (by omega)] at this
      omega
  refine cf (by simp [q1]) ?_
  by_cases q2 : w % 9 = 2
  · refine ct (by simp [q2]) (fld hE hV ?_ ?_ ?_ _ _ m1 m2)
    · refine evB_mk h1 h2 ?_ h4 h5 h6 h7 h8 h9
      show F40 (IntKind.wrap .i64 (e.ask + 1))
      rw [inc (by omega) (by omega)]; unfold F40; omega
    · exact hV
    · intro h
      have := congrArg Event.ask h
      simp only at this
      rw [inc (by omega) (by omega)] at this
      omega
  refine cf (by simp [q2]) ?_
  by_cases q3 : w % 9 = 3
  · refine ct (by simp [q3]) (fld hE hV ?_ ?_ ?_ _ _ m1 m2)
    · refine evB_mk h1 h2 h3 ?_ h5 h6 h7 h8 h9
      show F40 (IntKind.wrap .i64 (e.item + 1))
      rw [inc (by omega) (by omega)]; unfold F40; omega
    · exact hV
    · intro h
      have := congrArg Event.item h
      simp only at this
      rw [inc (by omega) (by omega)] at this
      omega
  refine cf (by simp [q3]) ?_
  by_cases q4 : w % 9 = 4
  · refine ct (by simp [q4]) (fld hE hV ?_ ?_ ?_ _ _ m1 m2)
    · refine evB_mk h1 h2 h3 h4 ?_ h6 h7 h8 h9
      show F40 (IntKind.wrap .i64 (e.at_ + 1))
      rw [inc (by omega) (by omega)]; unfold F40; omega
    · exact hV
    · intro h
      have := congrArg Event.at_ h
      simp only at this
      rw [inc (by omega) (by omega)] at this
      omega
  refine cf (by simp [q4]) ?_
  by_cases q5 : w % 9 = 5
  · refine ct (by simp [q5]) (fld hE hV ?_ ?_ ?_ _ _ m1 m2)
    · refine evB_mk h1 h2 h3 h4 h5 ?_ h7 h8 h9
      show 0 ≤ (e.answer.err + 1) % 13 ∧ (e.answer.err + 1) % 13 ≤ 12
      omega
    · exact hV
    · intro h
      have := congrArg (fun e => e.answer.err) h
      simp only at this
      omega
  refine cf (by simp [q5]) ?_
  by_cases q6 : w % 9 = 6
  · refine ct (by simp [q6]) (fld hE hV ?_ ?_ ?_ _ _ m1 m2)
    · exact evB_mk h1 h2 h3 h4 h5 h6 h7 h8 h9
    · exact hV
    · intro h
      have := congrArg (fun e => e.answer.used) h
      simp at this
  refine cf (by simp [q6]) ?_
  by_cases q7 : w % 9 = 7
  · refine ct (by simp [q7]) (ct m1 (ct (decide_eq_true (by unfold maxList; simp; omega)) (fld hE hV ?_ ?_ ?_ _ _ m1 m2)))
    · refine evB_mk h1 h2 h3 h4 h5 h6 ?_ h8 h9
      simp; omega
    · refine ⟨hV.1, fun a ha => ?_⟩
      rcases List.mem_append.1 (show a ∈ e.answer.addrs ++ [e.answer.addr] from ha) with ha | ha
      · exact hV.2 a ha
      · rw [List.mem_singleton.1 ha]; exact hV.1
    · intro h
      have := congrArg (fun e => e.answer.addrs.length) h
      simp at this
  refine cf (by simp [q7]) ?_
  refine ct (by simp; omega) (ct m2 (ct (decide_eq_true (by unfold maxList; simp; omega)) (fld hE hV ?_ ?_ ?_ _ _ m1 m2)))
  · refine evB_mk h1 h2 h3 h4 h5 h6 h7 ?_ ?_
    · simp; omega
    · intro x hx
      rcases List.mem_append.1 (show x ∈ e.answer.errs ++ [e.answer.err] from hx) with hx | hx
      · exact h9 x hx
      · rw [List.mem_singleton.1 hx]; exact h6
  · exact hV
  · intro h
    have := congrArg (fun e => e.answer.errs.length) h
    simp at this
end Go.Lv.Ld
