import Derived.Test.YtonphdpgepnenaaDoorLvApp
namespace Go.Lv
set_option linter.all false
open Go Go.RowKit
variable {S : Nat → Type}

section
variable {C : Ctx S} {K : Gh} {w : World} {B : Nat} {m : Mem S}

theorem unary_res (h : RelM C K w B m) {op : UnOp} {v : Value} {x y : V S} (hv : RepV C.E K w v x) (hx : (unD op x).opt = some y) : VRes C K w B ((Op.unary op v).run C.P w) y m := by
  unfold unD at hx
  split at hx
  · rename_i b
    simp only [D.opt, Option.some.injEq] at hx
    subst hx
    rw [bool_of hv]
    exact VRes.pur h (by simp [Op.unary]) (.cell (.bool _))
  · rename_i k n
    simp only [D.opt, Option.some.injEq] at hx
    subst hx
    rw [int_of hv]
    exact VRes.pur h (by simp only [Op.unary, Op.intArith, Sem.run_pure]; rfl) (.cell (.int _ _))
  · simp [D.opt] at hx

theorem convert_res (h : RelM C K w B m) {src dst : TypeId} {k k' : IntKind} {n : Int} {v : Value} (hs : (C.P.underlying src).isSome = true) (hd : C.P.underlying dst = some (.int k)) (hv : RepV C.E K w v (.cell (.int k') n)) :
    VRes C K w B ((convert src dst v).run C.P w) (wr (S := S) k n) m := by
  rw [int_of hv]
  obtain ⟨d, hd'⟩ := Option.isSome_iff_exists.mp hs
  exact VRes.pur h (by simp [convert, run_underlying hd', run_underlying hd, Conv.intToInt]) (.cell (.int _ _))

theorem len_res (hE : EnvOK C.E) (h : RelM C K w B m) {t ty : TypeId} {v : Value} {x y : V S} (hu : (∃ e, C.P.underlying t = some (.slice e)) ∨ C.P.underlying t = some .string) (hv : RepV C.E K w v x) (hx : (semLen m x).opt = some y)
    (hstr : C.P.underlying t = some .string ↔ ∃ l, x = .cell .str l) : VRes C K w B ((Builtin.len_ #[t] ty #[v]).run C.P w) y m := by
  have hsl : (∀ l, x ≠ .cell .str l) → ∀ {a : Option Addr} {n c : Nat}, (Builtin.len_ #[t] ty #[.slice a n c]).run C.P w = .ok (.int .i64 n) w := by
    intro hne a n c
    rcases hu with ⟨e, hu⟩ | hu
    · simp [Builtin.len_, run_underlying hu, goInt]
    · obtain ⟨l, e⟩ := hstr.1 hu; exact absurd e (hne l)
  unfold semLen at hx
  split at hx
  · rename_i t' l
    simp only [D.opt, Option.some.injEq] at hx
    subst hx
    cases hv with
    | cell hr =>
      obtain ⟨ad, cap, rfl, _⟩ := rep_slice hr
      exact VRes.pur h (hsl (fun l' q => by cases q)) (.cell (.int _ _))
  · rename_i t' l
    simp only [D.opt, Option.some.injEq] at hx
    subst hx
    cases hv with
    | full hr => exact VRes.pur h (hsl (fun l' q => by cases q)) (.cell (.int _ _))
  · simp only [D.opt, Option.some.injEq] at hx
    subst hx
    cases hv with
    | nilS a => exact VRes.pur h (hsl (fun l' q => by cases q)) (.cell (.int _ _))
  · rename_i l
    simp only [D.opt, Option.some.injEq] at hx
    subst hx
    rw [str_of hv]
    exact VRes.pur h (v := .int .i64 (List.length (α := UInt8) l)) (by simp only [Builtin.len_, run_underlying (hstr.2 ⟨l, rfl⟩), goInt, Sem.run_bind, Result.andThen_ok, Sem.run_pure, List.getElem?_toArray, List.getElem?_cons_zero]; rfl) (.cell (.int _ _))
  · rename_i id g
    split at hx
    · rename_i e' t' l g' fz hm
      split at hx
      · rename_i eg
        subst eg
        simp only [D.opt, Option.some.injEq] at hx
        subst hx
        obtain ⟨h1, h2, h3⟩ := h.ob id _ hm
        cases hv with
        | own _ _ _ hn hg hp hh =>
          rw [hh h1]
          rcases h3 with ⟨_, rfl, a, ha⟩ | ⟨hl, c, cap, p1, _⟩
          · rw [ha]; exact VRes.pur h (hsl (fun l' q => by cases q)) (.cell (.int _ _))
          · rw [p1]; exact VRes.pur h (hsl (fun l' q => by cases q)) (.cell (.int _ _))
      · simp [D.opt] at hx
    · simp [D.opt] at hx
  · simp [D.opt] at hx

theorem pick_at {α : Type} {i : Int} {f : Nat → α → D (V S)} {y : V S} : ∀ (l : List α) (n : Nat), (pickAt i n l f).opt = some y → ∃ (k : Nat) (a : α), l[k]? = some a ∧ i = ((n + k : Nat) : Int) ∧ (f (n + k) a).opt = some y
  | [], n, h => by simp [pickAt, D.opt] at h
  | a :: l, n, h => by
    simp only [pickAt, D.opt] at h
    by_cases e : i = (n : Int)
    · simp only [e, BEq.rfl, cond_true] at h
      exact ⟨0, a, rfl, by simpa using e, by simpa using h⟩
    · have e' : (i == (n : Int)) = false := by simpa using e
      rw [e'] at h
      simp only [cond_false] at h
      obtain ⟨k, b, h1, h2, h3⟩ := pick_at l (n + 1) h
      exact ⟨k + 1, b, h1, by rw [h2]; congr 1; omega, by rw [show n + (k + 1) = n + 1 + k by omega]; exact h3⟩

theorem bytes_get (l : List UInt8) (i : Nat) (b : UInt8) (h : l[i]? = some b) : (⟨l.toArray⟩ : ByteArray)[i]? = some b := by
  have hlt := (List.getElem?_eq_some_iff.1 h).1
  have hlt' : i < (⟨l.toArray⟩ : ByteArray).size := by show i < l.toArray.size; simpa using hlt
  rw [getElem?_pos (⟨l.toArray⟩ : ByteArray) i hlt']
  rw [List.getElem?_eq_getElem hlt] at h
  simp only [Option.some.injEq] at h
  rw [← h]; rfl
theorem index_res (h : RelM C K w B m) {t : TypeId} {v vi : Value} {x i y : V S} (hv : RepV C.E K w v x) (hi : RepV C.E K w vi i) (hx : (semIdx C t x i).opt = some y) :
    VRes C K w B ((Instr.index t v vi).run C.P w) y m := by
  unfold semIdx at hx
  split at hx
  · rename_i len e cs n hu
    obtain ⟨k, a, h1, h2, h3⟩ := pick_at _ _ hx
    rw [Nat.zero_add] at h2 h3
    rw [D.opt_ofOpt] at h3
    have hk : k < len := by have := (List.getElem?_eq_some_iff.1 h1).1; simpa using this
    cases hs : sizeOf? C e with
    | none => rw [hs] at h3; cases h3
    | some sz =>
      rw [hs] at h3
      simp only [Option.bind_some] at h3
      rw [int_of hi]
      cases hv with
      | agg ca vs hsz hj =>
        obtain ⟨r, r1, r2⟩ := take_rep hsz hj h3
        refine VRes.pur h ?_ r2
        have e1 : (n : Int) = (k : Int) := h2
        have h0 : (0 : Int) ≤ (k : Int) := by omega
        have h4 : (k : Int) < (len : Int) := by omega
        have : (Instr.index t (.agg ca) (.int .i64 (k : Int))).run C.P w = .ok r w := by
          simp only [Instr.index, asIntOf, Sem.run_bind, Sem.run_pure, Result.andThen_ok, run_underlying hu, run_sizeOf hs, if_pos (And.intro h0 h4), Int.toNat_natCast, r1]
        rw [← this]; congr 3
  · rename_i l n hu
    simp only [D.opt] at hx
    cases hg : geti (α := UInt8) l n with
    | none => rw [hg] at hx; simp at hx
    | some b =>
      rw [hg] at hx
      simp only [Option.bind_some, D.opt, Option.some.injEq] at hx
      subst hx
      obtain ⟨h0, h1, h2⟩ := geti_some hg
      rw [int_of hi, str_of hv]
      refine VRes.pur h ?_ (.cell (.int _ _))
      have : (Instr.index t (.string ⟨List.toArray l⟩) (.int .i64 n)).run C.P w = .ok (.int .u8 b.toNat) w := by
        have hb := bytes_get l (Int.toNat n) b h2
        have hn : @LE.le Int _ 0 n := h0
        simp only [Instr.index, asIntOf, Sem.run_bind, Sem.run_pure, Result.andThen_ok, run_underlying hu, if_pos hn, hb]
      exact this
  · simp [D.opt] at hx

theorem indexArr_res (h : RelM C K w B m) {t : TypeId} {len : Nat} {e : TypeId} {sz : Nat} (hu : C.P.underlying t = some (.array len e)) (hs : sizeOf? C e = some sz) {v : Value} {x y : V S} {k : Nat} (hk : k < len)
    (hv : RepV C.E K w v x) (hx : (semFA (k * sz) x).opt = some y) : VRes C K w B ((Instr.indexAt t v (.int .i64 (k : Int))).run C.P w) y m := by
  obtain ⟨a, rfl, hr⟩ := fa_rep hv hx
  have hk' : (k : Int) < (len : Int) := by omega
  refine VRes.pur h ?_ hr
  simp [Instr.indexAt, asIntOf, run_underlying hu, Instr.sureAddr, run_sizeOf hs]
  intro hle; omega

theorem indexAddr_res (hE : EnvOK C.E) (hT : TyOK C) (h : RelM C K w B m) {t : TypeId} {v vi : Value} {x i y : V S} {m' : Mem S} (hv : RepV C.E K w v x) (hi : RepV C.E K w vi i) (hx : (semIA C m t x i).opt = some (y, m')) :
    m' = m ∧ VRes C K w B ((Instr.indexAt t v vi).run C.P w) y m := by
  unfold semIA at hx
  split at hx
  · rename_i e n hu
    obtain ⟨T, hty, hx⟩ := opt_ofOpt_bind hx
    rw [int_of hi]
    exact elemAt_res hE hT h hu hty hv hx
  · rename_i len e n hu
    obtain ⟨sz, hs, hx⟩ := opt_ofOpt_bind hx
    rw [int_of hi]
    split at hx
    · rename_i id off
      obtain ⟨u, hp, e1⟩ := opt_bind_ret hx
      simp only [Prod.mk.injEq] at e1
      obtain ⟨rfl, rfl⟩ := e1
      obtain ⟨k, a, h1, h2, h3⟩ := pick_at _ _ hp
      rw [Nat.zero_add] at h2 h3
      have hk : k < len := by have := (List.getElem?_eq_some_iff.1 h1).1; simpa using this
      have := indexArr_res h hu hs hk hv (y := u) (by simpa [semFA, D.opt] using h3)
      refine ⟨rfl, ?_⟩
      rw [show (n : Int) = (k : Int) from h2]; exact this
    · rename_i cs
      obtain ⟨u, hp, e1⟩ := opt_bind_ret hx
      simp only [Prod.mk.injEq] at e1
      obtain ⟨rfl, rfl⟩ := e1
      obtain ⟨k, a, h1, h2, h3⟩ := pick_at _ _ hp
      rw [Nat.zero_add] at h2 h3
      have hk : k < len := by have := (List.getElem?_eq_some_iff.1 h1).1; simpa using this
      have := indexArr_res h hu hs hk hv (y := u) h3
      refine ⟨rfl, ?_⟩
      rw [show (n : Int) = (k : Int) from h2]; exact this
    · simp [D.opt] at hx
  · simp [D.opt] at hx

theorem mm_run {P : Program} (mx : Bool) (k : IntKind) (a b : Int) : ((if mx then Builtin.max2 else Builtin.min2) (.int k a) (.int k b)).run P w = .ok (.int k (mm mx a b)) w := by
  cases mx <;> simp [Builtin.max2, Builtin.min2, mm]

def mmStep (mx : Bool) (k : IntKind) (d : D (V S)) (y : V S) : D (V S) := d.bind fun v => match v, y with
  | .cell (.int j) a, .cell (.int j') b => if j = k ∧ j' = k then .ret (.cell (.int k) (mm mx a b)) else .fail
  | _, _ => .fail
theorem mm_fail (mx : Bool) (k : IntKind) : ∀ rest : List (V S), (rest.foldl (mmStep mx k) (.fail : D (V S))).opt = none
  | [] => rfl
  | r :: rest => by rw [List.foldl_cons]; exact mm_fail mx k rest
theorem mm_fold (mx : Bool) (k : IntKind) : ∀ (rest : List (V S)) (vs : List Value) (a : Int) (y : V S), vs.length = rest.length → (∀ (j : Nat) (v : Value) (x : V S), vs[j]? = some v → rest[j]? = some x → RepV C.E K w v x) →
    (rest.foldl (mmStep mx k) (.ret (.cell (.int k) a) : D (V S))).opt = some y → ∃ v, (vs.foldlM (if mx then Builtin.max2 else Builtin.min2) (.int k a) : Sem Value).run C.P w = .ok v w ∧ RepV C.E K w v y
  | [], vs, a, y, hl, _, hy => by
    have : vs = [] := List.eq_nil_of_length_eq_zero (by simpa using hl)
    subst this
    simp only [List.foldl_nil, D.opt, Option.some.injEq] at hy
    subst hy
    exact ⟨_, rfl, .cell (.int _ _)⟩
  | r :: rest, [], a, y, hl, _, hy => by simp at hl
  | r :: rest, v :: vs, a, y, hl, hv, hy => by
    have hr := hv 0 v r rfl rfl
    simp only [List.foldl_cons, mmStep, D.bind] at hy
    split at hy
    · rename_i j a' j' b e1
      cases e1
      split at hy
      · rename_i hk
        obtain ⟨_, rfl⟩ := hk
        rw [int_of hr]
        obtain ⟨u, u1, u2⟩ := mm_fold mx j' rest vs (mm mx a b) y (by simpa using hl) (fun j v x p q => hv (j + 1) v x (by simpa using p) (by simpa using q)) hy
        refine ⟨u, ?_, u2⟩
        have := mm_run (w := w) (P := C.P) mx j' a b
        rw [List.foldlM_cons, Sem.run_bind, this]
        exact u1
      · have := mm_fail (S := S) mx k rest
        rw [this] at hy; cases hy
    · have := mm_fail (S := S) mx k rest
      rw [this] at hy; cases hy

theorem minMax_res {mx : Bool} {vs : List Value} {xs : List (V S)} {y : V S} (hl : vs.length = xs.length) (hv : ∀ (j : Nat) (v : Value) (x : V S), vs[j]? = some v → xs[j]? = some x → RepV C.E K w v x)
    (hx : (semMinMax mx xs).opt = some y) : ∃ v0 rest v, vs = v0 :: rest ∧ (rest.foldlM (if mx then Builtin.max2 else Builtin.min2) v0 : Sem Value).run C.P w = .ok v w ∧ RepV C.E K w v y := by
  cases xs with
  | nil => simp [semMinMax, D.opt] at hx
  | cons x0 xs =>
    cases vs with
    | nil => simp at hl
    | cons v0 vs =>
      unfold semMinMax at hx
      split at hx
      · rename_i k x rest e
        simp only [List.cons.injEq] at e
        obtain ⟨rfl, rfl⟩ := e
        have h0 := int_of (hv 0 v0 _ rfl rfl)
        subst h0
        obtain ⟨v, q1, q2⟩ := mm_fold mx k xs vs x y (by simpa using hl) (fun j v x p q => hv (j + 1) v x (by simpa using p) (by simpa using q)) hx
        exact ⟨_, _, v, rfl, q1, q2⟩
      · simp [D.opt] at hx

theorem lookup_int {n : Int} {y : V S} : ∀ (l : List (Int × V S)), (mapAt n l).opt = some y → ∃ (j : Nat) (p : Int × V S), l[j]? = some p ∧ p.1 = n ∧ p.2 = y ∧ ∀ (i : Nat) (q : Int × V S), i < j → l[i]? = some q → q.1 ≠ n
  | [], h => by simp [mapAt, D.opt] at h
  | p :: l, h => by
    simp only [mapAt, D.opt] at h
    cases e : ieq n p.1 with
    | true =>
      rw [e] at h
      simp only [cond_true, Option.some.injEq] at h
      exact ⟨0, p, rfl, (ieq_eq e).symm, h, fun i q hi => by omega⟩
    | false =>
      rw [e] at h
      simp only [cond_false] at h
      obtain ⟨j, q, h1, h2, h3, h4⟩ := lookup_int l h
      refine ⟨j + 1, q, h1, h2, h3, fun i r hi hr => ?_⟩
      cases i with
      | zero =>
        simp at hr
        subst hr
        intro q
        simp [ieq, q] at e
      | succ i => exact h4 i r (by omega) hr

theorem findNow_at (k : IntKind) (n : Int) : ∀ (es : List MapEntry) (ky : Nat → Int) (i : Nat), (∀ (j : Nat) (e : MapEntry), es[j]? = some e → e.key = .int .i64 (ky j)) → ∀ (j : Nat) (e : MapEntry), es[j]? = some e → ky j = n → (∀ (i : Nat), i < j → ky i ≠ n) →
    Instr.findNow (.int k) (.int .i64 n) es i = some (some (i + j, e.val))
  | [], _, i, _, j, e, h, _, _ => by simp at h
  | e0 :: es, ky, i, hk, j, e, he, hkj, hne => by
    have h0 := hk 0 e0 rfl
    simp only [Instr.findNow, h0, Instr.sameNow, if_true]
    cases j with
    | zero =>
      simp at he
      subst he hkj
      simp
    | succ j =>
      have hn0 := hne 0 (by omega)
      have : (n == ky 0) = false := by simp; exact fun q => hn0 q.symm
      rw [this]
      simp only
      rw [findNow_at k n es (fun j => ky (j + 1)) (i + 1) (fun j e p => hk (j + 1) e p) j e (by simpa using he) hkj (fun i hi => hne (i + 1) (by omega))]
      congr 3; omega

theorem lookup_res (h : RelM C K w B m) {t kt et : TypeId} {k : IntKind} (hu : C.P.underlying t = some (.map kt et)) (hk : C.P.underlying kt = some (.int k)) {v vi : Value} {es : List (Int × V S)} {n : Int} {y : V S}
    (hv : RepV C.E K w v (.cmap es)) (hi : RepV C.E K w vi (.cell (.int .i64) n)) (hx : (mapAt n es).opt = some y) : VRes C K w B ((Instr.lookup t v vi false).run C.P w) y m := by
  obtain ⟨j, p, h1, h2, h3, h4⟩ := lookup_int es hx
  rw [int_of hi]
  cases hv with
  | cmap r ea clock l ix ky hst hm hky hu2 hix hkk hall hvv =>
    have hja : ix j < ea.size := hix j (List.getElem?_eq_some_iff.1 h1).1
    have he : ea[ix j]? = some ea[ix j] := by simp [hja]
    have hkn : ky (ix j) = n := (hkk j p h1).trans h2
    have hf := findNow_at k n ea.toList ky 0 (fun j e p => hky j e (by simpa using p)) (ix j) ea[ix j] (by simp [hja]) hkn (fun i hi q => by
      have := hu2 i (ix j) (by omega) hja (q.trans hkn.symm)
      omega)
    have hck' : ∀ (d : Nat) (b : Bool), (Instr.checkKey b (d + 1) kt (.int .i64 n)).run C.P w = .ok () w := by
      intro d b; simp [Instr.checkKey, run_underlying hk]
    have hck : (Instr.checkKey ea.isEmpty 10000 kt (.int .i64 n)).run C.P w = .ok () w := hck' 9999 _
    refine VRes.pur h (v := ea[ix j].val) ?_ (h3 ▸ hvv j _ p he h1)
    have hgo : (getObj r).run C.P w = .ok (.map ea clock) w := by simp [getObj, Sem.run, hm]
    simp only [Instr.lookup, Sem.run_bind, run_underlying hu, Result.andThen_ok, hgo, Sem.run_pure, hck, Instr.findKey, run_underlying hk, hf, Bool.false_eq_true, if_false]
theorem mapAtOk_spec {z : V S} {n : Int} {y : V S} : ∀ (l : List (Int × V S)), (mapAtOk z n l).opt = some y →
    (∃ (j : Nat) (p : Int × V S), l[j]? = some p ∧ p.1 = n ∧ y = .tup [p.2, .cell .bool true] ∧ ∀ (i : Nat) (q : Int × V S), i < j → l[i]? = some q → q.1 ≠ n) ∨
    (y = .tup [z, .cell .bool false] ∧ ∀ (i : Nat) (q : Int × V S), l[i]? = some q → q.1 ≠ n)
  | [], h => by
    simp only [mapAtOk, D.opt, Option.some.injEq] at h
    exact .inr ⟨h.symm, fun i q hq => by simp at hq⟩
  | p :: l, h => by
    simp only [mapAtOk, D.opt] at h
    cases e : ieq n p.1 with
    | true =>
      rw [e] at h
      simp only [cond_true, Option.some.injEq] at h
      exact .inl ⟨0, p, rfl, (ieq_eq e).symm, h.symm, fun i q hi => by omega⟩
    | false =>
      rw [e] at h
      simp only [cond_false] at h
      have hne : p.1 ≠ n := fun q => by simp [ieq, q] at e
      rcases mapAtOk_spec l h with ⟨j, q, h1, h2, h3, h4⟩ | ⟨h1, h2⟩
      · refine .inl ⟨j + 1, q, h1, h2, h3, fun i r hi hr => ?_⟩
        cases i with
        | zero => simp at hr; subst hr; exact hne
        | succ i => exact h4 i r (by omega) hr
      · refine .inr ⟨h1, fun i q hq => ?_⟩
        cases i with
        | zero => simp at hq; subst hq; exact hne
        | succ i => exact h2 i q (by simpa using hq)
theorem findNow_no (k : IntKind) (n : Int) : ∀ (es : List MapEntry) (ky : Nat → Int) (i : Nat), (∀ (j : Nat) (e : MapEntry), es[j]? = some e → e.key = .int .i64 (ky j)) → (∀ (j : Nat), j < es.length → ky j ≠ n) → Instr.findNow (.int k) (.int .i64 n) es i = some none
  | [], ky, i, _, _ => rfl
  | e0 :: es, ky, i, hk, hne => by
    have h0 := hk 0 e0 rfl
    have hn0 := hne 0 (by simp)
    simp only [Instr.findNow, h0, Instr.sameNow, if_true]
    have : (n == ky 0) = false := by simp; exact fun q => hn0 q.symm
    rw [this]
    simp only
    exact findNow_no k n es (fun j => ky (j + 1)) (i + 1) (fun j e p => hk (j + 1) e p) (fun j hj => hne (j + 1) (by simpa using hj))
theorem nilElem_zero {t kt et : TypeId} (hu : C.P.underlying t = some (.map kt et)) (h : nilElem C t = true) : (zeroValue et).run C.P w = .ok .nilIface w := by
  unfold nilElem at h
  rw [hu] at h
  simp only at h
  cases hi : C.P.info? et with
  | none => rw [hi] at h; simp at h
  | some i =>
    rw [hi] at h
    simp only [Option.bind_some] at h
    cases hz : i.zero with
    | none => rw [hz] at h; simp at h
    | some z =>
      rw [hz] at h
      cases z <;> try (simp at h; done)
      simp [zeroValue, typeInfo, hi, hz]
theorem lookupOk_res (h : RelM C K w B m) {t kt et : TypeId} {k : IntKind} (hu : C.P.underlying t = some (.map kt et)) (hk : C.P.underlying kt = some (.int k)) (hz : nilElem C t = true) {v vi : Value} {es : List (Int × V S)} {n : Int} {y : V S}
    (hv : RepV C.E K w v (.cmap es)) (hi : RepV C.E K w vi (.cell (.int .i64) n)) (hx : (mapAtOk (.cell .err false) n es).opt = some y) : VRes C K w B ((Instr.lookup t v vi true).run C.P w) y m := by
  rw [int_of hi]
  have pair : ∀ {a b : Value} {x z : V S}, RepV C.E K w a x → RepV C.E K w b z → RepV C.E K w (.tuple #[a, b]) (.tup [x, z]) := by
    intro a b x z h1 h2
    refine .tup _ _ rfl fun j c u hc hu => ?_
    match j, hc, hu with
    | 0, hc, hu => simp at hc hu; subst hc hu; exact h1
    | 1, hc, hu => simp at hc hu; subst hc hu; exact h2
    | j + 2, hc, hu => simp at hu
  cases hv with
  | cmap r ea clock l ix ky hst hm hky hu2 hix hkk hall hvv =>
    have hck' : ∀ (d : Nat) (b : Bool), (Instr.checkKey b (d + 1) kt (.int .i64 n)).run C.P w = .ok () w := by
      intro d b; simp [Instr.checkKey, run_underlying hk]
    have hck : (Instr.checkKey ea.isEmpty 10000 kt (.int .i64 n)).run C.P w = .ok () w := hck' 9999 _
    have hgo : (getObj r).run C.P w = .ok (.map ea clock) w := by simp [getObj, Sem.run, hm]
    rcases mapAtOk_spec es hx with ⟨j, p, h1, h2, rfl, h4⟩ | ⟨rfl, h2⟩
    · have hja : ix j < ea.size := hix j (List.getElem?_eq_some_iff.1 h1).1
      have he : ea[ix j]? = some ea[ix j] := by simp [hja]
      have hkn : ky (ix j) = n := (hkk j p h1).trans h2
      have hf := findNow_at k n ea.toList ky 0 (fun j e p => hky j e (by simpa using p)) (ix j) ea[ix j] (by simp [hja]) hkn (fun i hi q => by
        have := hu2 i (ix j) (by omega) hja (q.trans hkn.symm)
        omega)
      refine VRes.pur h (v := .tuple #[ea[ix j].val, .bool true]) ?_ (pair (hvv j _ p he h1) (.cell (.bool true)))
      simp only [Instr.lookup, Sem.run_bind, run_underlying hu, Result.andThen_ok, hgo, Sem.run_pure, hck, Instr.findKey, run_underlying hk, hf, if_true]
    · have hf := findNow_no k n ea.toList ky 0 (fun j e p => hky j e (by simpa using p)) (fun j hj q => by
        obtain ⟨j', hj', rfl⟩ := hall j (by simpa using hj)
        have hp := List.getElem?_eq_getElem hj'
        exact h2 j' _ hp ((hkk j' _ hp).symm.trans q))
      refine VRes.pur h (v := .tuple #[.nilIface, .bool false]) ?_ (pair (.cell .errNil) (.cell (.bool false)))
      simp only [Instr.lookup, Sem.run_bind, run_underlying hu, Result.andThen_ok, hgo, Sem.run_pure, hck, Instr.findKey, run_underlying hk, hf, if_true, nilElem_zero hu hz]
end
end Go.Lv
