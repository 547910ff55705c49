import Derived.Test.YtonphdpgepnenaaDoorLvRun
namespace Go.Lv
set_option linter.all false
open Go Go.RowKit
variable {S : Nat → Type}

section
variable (C : Ctx S) (cl : Cl S) {R : Type}

def canonL (hd : List Item → St S → Option (St S)) (L : Lp S R) : Lp S R := fun todo s => (D.ofOpt (hd todo s)).bind fun s' => L todo s'

def Lfix (hd : List Item → St S → Option (St S)) (fin : St S → D R) : Nat → Lp S R
  | 0 => fun _ _ => .fail
  | n + 1 => fun todo s => match todo with
    | .inLoop c :: k => ex C cl (canonL hd (Lfix hd fin n)) fin fuel (.code c :: .inLoop c :: k) s
    | _ => .fail

def finR (fn : Func) (ts : List Ty) (de : List (Cell S) → Option R) : St S → D R := fun s => (finT C fn ts s).bind fun cs => D.ofOpt (de cs)

/-- A function's run, its loops by L. -/
def runW (L : (St S → D R) → Lp S R) (f : FuncId) (ts : List Ty) (de : List (Cell S) → Option R) (args : List (V S)) : D R :=
  match body? C f with
  | some (fn, b) => ex C cl (L (finR C fn ts de)) (finR C fn ts de) fuel [.code b] (st0 fn args [])
  | none => .fail

def runF (hd : List Item → St S → Option (St S)) (f : FuncId) (ts : List Ty) (de : List (Cell S) → Option R) (n : Nat) (args : List (V S)) : D R :=
  runW C cl (fun fin => canonL hd (Lfix C cl hd fin n)) f ts de args
end

section
variable {C : Ctx S} {cl : Cl S} {B : Nat}

/-- A head's turn says the same of the world. -/
def HdOK (C : Ctx S) (hd : List Item → St S → Option (St S)) : Prop := ∀ (B : Nat) (K0 : Gh) (w0 : World) (todo : List Item) (s s' : St S) (a : Act) (w : World), K0.n = 0 → At C B K0 w0 s a w → hd todo s = some s' → At C B K0 w0 s' a w

theorem HdOK.id : HdOK C fun _ s => some s := fun _ _ _ _ s s' a w _ h e => by cases e; exact h

section
variable (hE : EnvOK C.E) (hT : TyOK C) (hS : ∀ f sp, C.spec f = some sp → SpecOK C f sp) (hC : ClOK C cl) (hM : C.P.follows .mixedOrders = true) {K0 : Gh} (hK0 : K0.n = 0) {w0 : World} {b : Frame} {cs : List Frame}
    {R : Type} {fin : St S → D R} {T : R → Act → World → Prop} {hd : List Item → St S → Option (St S)} (hH : HdOK C hd)
    (hF : ∀ s r a w, At C B K0 w0 s a w → (fin s).opt = some r → T r a w)
include hE hT hS hC hM hK0 hH hF

theorem canon_ok {L : Lp S R} (hL : ∀ c k s r a w, itemsOk C (.inLoop c :: k) = true → At C B K0 w0 s a w → (L (.inLoop c :: k) s).opt = some r → Runs C.P b cs (.code c :: .inLoop c :: k) a w (T r)) :
    ∀ c k s r a w, itemsOk C (.inLoop c :: k) = true → At C B K0 w0 s a w → (canonL hd L (.inLoop c :: k) s).opt = some r → Runs C.P b cs (.code c :: .inLoop c :: k) a w (T r) := by
  intro c k s r a w hk hA h
  obtain ⟨s', hs', h⟩ := opt_ofOpt_bind h
  exact hL c k s' r a w hk (hH _ _ _ _ _ _ _ _ hK0 hA hs') h

theorem fix_ok : ∀ (n : Nat) (c : Code) (k : List Item) (s : St S) (r : R) (a : Act) (w : World), itemsOk C (.inLoop c :: k) = true → At C B K0 w0 s a w → (Lfix C cl hd fin n (.inLoop c :: k) s).opt = some r → Runs C.P b cs (.code c :: .inLoop c :: k) a w (T r)
  | 0, c, k, s, r, a, w, _, _, h => by simp [Lfix, D.opt] at h
  | n + 1, c, k, s, r, a, w, hk, hA, h => by
    simp only [Lfix] at h
    refine ex_ok hE hT hS hC hM (canon_ok hE hT hS hC hM hK0 hH hF (fix_ok n)) hF fuel _ s r a w ?_ hA h
    simp only [itemsOk, itemOk, Bool.and_eq_true] at hk ⊢
    exact ⟨hk.1, hk.1, hk.2⟩
end

theorem dec_marks (m : Mem S) (ids : List Nat) (t : Ty) (x : V S) : dec C.E (mark m ids) t x = dec C.E m t x := dec_like (mark_like m ids) t x

theorem decAll_marks (m : Mem S) (ids : List Nat) : ∀ (ts : List Ty) (xs : List (V S)), decAll C.E (mark m ids) ts xs = decAll C.E m ts xs
  | [], xs => by cases xs <;> rfl
  | t :: ts, [] => rfl
  | t :: ts, x :: xs => by simp only [decAll, dec_marks, decAll_marks m ids ts xs]

/-- The answer as it is told. -/
theorem finT_rep (hE : EnvOK C.E) {K : Gh} {w : World} {s : St S} {a : Act} (h : RelS C K w B s a) (fn : Func) {ts : List Ty} {cs : List (Cell S)} (hx : (finT C fn ts s).opt = some cs) :
    ∃ v K', (results fn a.tmps).run C.P w = .ok v w ∧ Ext K w K' w ∧ (∃ m, RelM C K' w B m) ∧ RepV C.E (gh0 K'.σ) w v (encAll C.E cs) := by
  unfold finT at hx
  obtain ⟨x, h1, hx⟩ := opt_ofOpt_bind hx
  obtain ⟨v, h2, h3⟩ := results_run h fn h1
  obtain ⟨K', x1, s1, r1, f1⟩ := freeze h.mem x.owns
  split at hx
  ·
    obtain ⟨y, hy, hx⟩ := opt_ofOpt_bind hx
    simp only [D.opt, Option.some.injEq] at hx
    subst hx
    exact ⟨v, K', h2, x1, ⟨_, r1⟩, enc_gh0 (dec_rep hE r1 (h3.mono x1) ((dec_marks s.mem x.owns _ x).trans hy) f1)⟩
  · rename_i vs hne
    have hx' : decAll C.E s.mem ts vs = some cs := by
      cases hd : decAll C.E s.mem ts vs with
      | none => rw [hd] at hx; simp [D.ofOpt, D.opt] at hx
      | some q => rw [hd] at hx; simp only [D.ofOpt, D.opt, Option.some.injEq] at hx; rw [hx]
    cases h3 with
    | tup us _ hs hj =>
      obtain ⟨K2, x2, s2, r2, f2⟩ := freeze h.mem (vs.flatMap V.owns)
      obtain ⟨a1, a2⟩ := decAll_rep hE r2 ts vs cs us.toList (by simpa using hs) (fun j v y p q => (hj j v y (by simpa using p) q).mono x2) f2 ((decAll_marks s.mem _ ts vs).trans hx')
      refine ⟨_, K2, h2, x2, ⟨_, r2⟩, ?_⟩
      have hlen : ∀ (ts : List Ty) (vs : List (V S)) (cs : List (Cell S)), decAll C.E s.mem ts vs = some cs → ts.length = cs.length := by
        intro ts
        induction ts with
        | nil => intro vs cs h; cases vs <;> simp [decAll] at h; simp [h]
        | cons t ts ih =>
          intro vs cs h
          cases vs with
          | nil => simp [decAll] at h
          | cons v vs =>
            simp only [decAll] at h
            cases hd : dec C.E s.mem t v with
            | none => rw [hd] at h; cases h
            | some y =>
              rw [hd] at h
              simp only [Option.bind_some] at h
              cases hd2 : decAll C.E s.mem ts vs with
              | none => rw [hd2] at h; cases h
              | some q =>
                rw [hd2] at h
                simp only [Option.bind_some, Option.some.injEq] at h
                subst h
                simp [ih vs q hd2]
      have hl := hlen ts vs cs hx'
      have henc : encAll C.E cs = .tup (cs.map fun c => encV C.E c.t c.x) := by
        match cs, hl with
        | [], _ => rfl
        | [c], hl =>
          match ts, hl with
          | [t], _ => exact absurd rfl (hne t)
        | c :: d :: r, _ => rfl
      rw [henc]
      refine .tup us _ (by simpa using a1) fun j u y p q => ?_
      rw [List.getElem?_map] at q
      cases hc : cs[j]? with
      | none => rw [hc] at q; simp at q
      | some c =>
        rw [hc] at q
        simp only [Option.map_some, Option.some.injEq] at q
        subst q
        exact a2 j u c (by simpa using p) hc
  · simp [D.opt] at hx

/-- A function's contract from its run. -/
theorem spec_ok (hE : EnvOK C.E) (hT : TyOK C) (hS : ∀ f sp, C.spec f = some sp → SpecOK C f sp) (hC : ClOK C cl) (hM : C.P.follows .mixedOrders = true) {hd : List Item → St S → Option (St S)} (hH : HdOK C hd)
    {f : FuncId} (hok : fnOk C f = true) {sp : Spec S} (ts : List Ty) (de : List (Cell S) → Option sp.R) (hde : ∀ cs r, de cs = some r → cs = sp.enc r)
    (hev : ∀ cs r, sp.run cs = some r → ∃ n, (runF C cl hd f ts de n (cs.map fun c => encV C.E c.t c.x)).opt = some r) : SpecOK C f sp := by
  unfold fnOk at hok
  cases hfn : C.P.funcs[f]? with
  | none => rw [hfn] at hok; cases hok
  | some fn =>
    rw [hfn] at hok
    simp only at hok
    cases hb : fn.body with
    | none => rw [hb] at hok; cases hok
    | some c =>
      rw [hb] at hok
      simp only [Bool.and_eq_true] at hok
      obtain ⟨hc, hname⟩ := hok
      refine ⟨⟨fn, hfn, by rw [hb]; rfl, by simpa using hname⟩, fun σ w vs cs r hg hnew hargs hrun => ?_⟩
      obtain ⟨n, hn⟩ := hev cs r hrun
      have hbody : body? C f = some (fn, c) := by unfold body?; rw [hfn]; simp [hb]
      unfold runF runW at hn
      rw [hbody] at hn
      simp only at hn
      let K0 : Gh := { gh0 σ with σ0 := some σ }
      have hx0 : Ext (gh0 σ) w K0 w := ⟨Nat.zero_le _, fun i hi => absurd hi (Nat.not_lt_zero i), fun _ => Nat.le_refl _, fun _ _ _ => rfl, fun _ _ _ h => keeps.of h, .inl rfl⟩
      have hm0 : RelM C K0 w w.heap.size ([] : Mem S) := ⟨rfl, fun i o h => by simp at h, fun i j hi _ _ _ _ => absurd hi (Nat.not_lt_zero i), hnew, hg, Nat.le_refl _, σ, rfl, fun _ _ => rfl⟩
      refine calls_of_runs hfn hb fun b fs => ?_
      have hF : ∀ s r a w', At C w.heap.size K0 w s a w' → (finR C fn ts de s).opt = some r → a.defers = [] ∧ ∃ v σ', (results fn a.tmps).run C.P w' = .ok v w' ∧ Below w.heap.size w w' ∧ (∀ b, b < w.heap.size → σ' b = σ b) ∧ (∀ b, w'.heap.size ≤ b → σ' b = 0) ∧ RepV C.E (gh0 σ') w' v (encAll C.E (sp.enc r)) := by
        rintro s r a w' ⟨K, x1, x2, x3⟩ hf
        obtain ⟨cs', h1, h2⟩ := opt_bind_some hf
        have h2' : de cs' = some r := by
          cases hd : de cs' with
          | none => rw [hd] at h2; simp [D.ofOpt, D.opt] at h2
          | some q => rw [hd] at h2; simp only [D.ofOpt, D.opt, Option.some.injEq] at h2; rw [h2]
        obtain ⟨v, K', g1, g2, ⟨m, g3⟩, g4⟩ := finT_rep hE x3 fn h1
        rw [hde cs' r h2'] at g4
        obtain ⟨F, f1, f2⟩ := g3.old
        have hxx := x1.trans g2
        have hF : F = σ := by
          rcases hxx.σ0 with q | q
          · cases q
          · rw [f1] at q; cases q; rfl
        subst hF
        exact ⟨x3.defers, v, K'.σ, g1, x2, f2, g3.new, g4⟩
      have hA : At C w.heap.size K0 w (st0 fn (cs.map fun c => encV C.E c.t c.x) []) { tmps := vs ++ Array.replicate (fn.ntmps - vs.size) undef, defers := [] } w := by
        refine ⟨K0, .refl K0 w, Below.refl _ w, RelS.start hm0 fn (by simpa using hargs.1) fun j v y p q => ?_⟩
        rw [List.getElem?_map] at q
        cases hcj : cs[j]? with
        | none => rw [hcj] at q; simp at q
        | some c =>
          rw [hcj] at q
          simp only [Option.map_some, Option.some.injEq] at q
          subst q
          exact (hargs.2 j v c p hcj).mono hx0
      obtain ⟨a', w', t', ⟨hd', v, σ', q1, q2, q3, q4, q5⟩, st⟩ := ex_ok (b := b) (cs := fs) hE hT hS hC hM (canon_ok (T := fun r a w' => a.defers = [] ∧ ∃ v σ', (results fn a.tmps).run C.P w' = .ok v w' ∧ Below w.heap.size w w' ∧ (∀ b, b < w.heap.size → σ' b = σ b) ∧ (∀ b, w'.heap.size ≤ b → σ' b = 0) ∧ RepV C.E (gh0 σ') w' v (encAll C.E (sp.enc r))) hE hT hS hC hM rfl hH hF (fix_ok hE hT hS hC hM rfl hH hF n)) hF fuel [.code c] _ r _ w (by simp [itemsOk, itemOk, hc]) hA hn
      exact ⟨a', w', t', ⟨hd', v, q1, v, σ', rfl, q2, q3, q4, q5⟩, st⟩
end
end Go.Lv
