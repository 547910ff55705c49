import Derived.Test.YtonphdpgepnenaaDoorLvCopy
namespace Go.Lv
set_option linter.all false
open Go Go.RowKit
variable {S : Nat → Type}

/-- A call of a function with a Go body goes into it. -/
def Enters (P : Program) (f : FuncId) : Prop := ∃ fn, P.funcs[f]? = some fn ∧ fn.body.isNone = false ∧ (fn.name == "runtime.NumGoroutine") = false
theorem Enters.run {P : Program} {f : FuncId} (h : Enters P f) (args : Array Value) (w : World) : (callFunc f args).run P w = .ok (.enter f args) w := by
  obtain ⟨fn, h1, h2, h3⟩ := h
  simp only [callFunc, Sem.run_bind, run_program, Result.andThen_ok, h1, h2, h3, Bool.false_eq_true, if_false, Sem.run_pure]

/-- The arguments of a call of a function that has a contract. -/
def RepArgs (E : Env S) (σ : Nat → Nat) (w : World) (vs : Array Value) (cs : List (Cell S)) : Prop :=
  vs.size = cs.length ∧ ∀ (j : Nat) (v : Value) (c : Cell S), vs[j]? = some v → cs[j]? = some c → RepV E (gh0 σ) w v (encV E c.t c.x)

def SpecOK (C : Ctx S) (f : FuncId) (sp : Spec S) : Prop := Enters C.P f ∧
  ∀ (σ : Nat → Nat) (w : World) (vs : Array Value) (cs : List (Cell S)) (r : sp.R), GlobOK C σ w → (∀ b, w.heap.size ≤ b → σ b = 0) → RepArgs C.E σ w vs cs → sp.run cs = some r →
    Calls C.P f vs w fun e w' => ∃ v σ', e = .returned v ∧ Below w.heap.size w w' ∧ (∀ b, b < w.heap.size → σ' b = σ b) ∧ (∀ b, w'.heap.size ≤ b → σ' b = 0) ∧ RepV C.E (gh0 σ') w' v (encAll C.E (sp.enc r))

def ClOK (C : Ctx S) (cl : Cl S) : Prop := ∀ (f : FuncId), C.inl f = true → Enters C.P f ∧
  ∀ (K : Gh) (w : World) (B : Nat) (m : Mem S) (args : List (V S)) (vs : Array Value) (x : V S) (m' : Mem S), RelM C K w B m → vs.size = args.length → (∀ (j : Nat) (v : Value) (y : V S), vs[j]? = some v → args[j]? = some y → RepV C.E K w v y) →
    (cl f args m).opt = some (x, m') → Calls C.P f vs w fun e w' => ∃ v K', e = .returned v ∧ Ext K w K' w' ∧ Below B w w' ∧ RelM C K' w' B m' ∧ RepV C.E K' w' v x

section
variable {C : Ctx S} {K : Gh} {w : World} {B : Nat} {m : Mem S}

theorem enc_gh0 {t : Ty} {v : Value} {y : den S t} (h : RepV C.E K w v (encV C.E t y)) : RepV C.E (gh0 K.σ) w v (encV C.E t y) := by
  have leaf : ∀ (t : Ty) (y : den S t), RepV C.E K w v (.cell t y) → RepV C.E (gh0 K.σ) w v (.cell t y) := fun t y h => by cases h with | cell h => exact .cell h
  cases t with
  | st i =>
    simp only [encV] at h ⊢
    cases h with
    | agg cs vs hs hj =>
      refine .agg cs _ hs fun j c u hc hu => ?_
      have := hj j c u hc hu
      rw [List.getElem?_map] at hu
      cases hcl : (C.E.toC i y)[j]? with
      | none => rw [hcl] at hu; simp at hu
      | some cl =>
        rw [hcl] at hu
        simp only [Option.map_some, Option.some.injEq] at hu
        subst hu
        cases this with | cell h => exact .cell h
  | bool => exact leaf .bool y h
  | int k => exact leaf (.int k) y h
  | str => exact leaf .str y h
  | err => exact leaf .err y h
  | fn => exact leaf .fn y h
  | slice t => exact leaf (.slice t) y h

theorem decAll_rep (hE : EnvOK C.E) (h : RelM C K w B m) : ∀ (ts : List Ty) (xs : List (V S)) (cs : List (Cell S)) (vs : List Value), vs.length = xs.length → (∀ (j : Nat) (v : Value) (y : V S), vs[j]? = some v → xs[j]? = some y → RepV C.E K w v y) →
    Frz C.E K m (xs.flatMap V.owns) → decAll C.E m ts xs = some cs → vs.length = cs.length ∧ ∀ (j : Nat) (v : Value) (c : Cell S), vs[j]? = some v → cs[j]? = some c → RepV C.E (gh0 K.σ) w v (encV C.E c.t c.x)
  | [], [], cs, vs, hl, _, _, hd => by
    simp only [decAll, Option.some.injEq] at hd
    subst hd
    exact ⟨hl, fun j v c _ hc => by simp at hc⟩
  | [], _ :: _, cs, vs, hl, _, _, hd => by simp [decAll] at hd
  | _ :: _, [], cs, vs, hl, _, _, hd => by simp [decAll] at hd
  | t :: ts, x :: xs, cs, [], hl, _, _, hd => by simp at hl
  | t :: ts, x :: xs, cs, v :: vs, hl, hr, hf, hd => by
    simp only [decAll] at hd
    cases h1 : dec C.E m t x with
    | none => rw [h1] at hd; cases hd
    | some y =>
      rw [h1] at hd
      simp only [Option.bind_some] at hd
      cases h2 : decAll C.E m ts xs with
      | none => rw [h2] at hd; cases hd
      | some r =>
        rw [h2] at hd
        simp only [Option.bind_some, Option.some.injEq] at hd
        subst hd
        obtain ⟨i1, i2⟩ := decAll_rep hE h ts xs r vs (by simpa using hl) (fun j v y p q => hr (j + 1) v y (by simpa using p) (by simpa using q)) (fun id hid => hf id (by simp only [List.flatMap_cons, List.mem_append]; exact .inr hid)) h2
        refine ⟨by simp [i1], fun j u c hu hc => ?_⟩
        cases j with
        | zero =>
          simp only [List.getElem?_cons_zero, Option.some.injEq] at hu hc
          subst hu hc
          exact enc_gh0 (dec_rep hE h (hr 0 v x rfl rfl) h1 fun id hid => hf id (by simp only [List.flatMap_cons, List.mem_append]; exact .inl hid))
        | succ j => exact i2 j u c (by simpa using hu) (by simpa using hc)

/-- Behind a call that makes memory alone. -/
theorem RelM.called (h : RelM C K w B m) {w' : World} {σ' : Nat → Nat} (hb : Below w.heap.size w w') (h1 : ∀ b, b < w.heap.size → σ' b = K.σ b) (h2 : ∀ b, w'.heap.size ≤ b → σ' b = 0) :
    Ext K w { K with σ := σ' } w' ∧ RelM C { K with σ := σ' } w' B m := by
  have hx : Ext K w { K with σ := σ' } w' := by
    refine ⟨Nat.le_refl _, fun i _ => ⟨Nat.le_refl _, fun _ => ⟨rfl, rfl, rfl⟩⟩, fun b => ?_, fun b o ho => ?_, fun b ob h0 he => ?_, .inr rfl⟩
    · rcases Nat.lt_or_ge b w.heap.size with q | q
      · exact Nat.le_of_eq (h1 b q).symm
      · rw [h.new b q]; exact Nat.zero_le _
    · rcases Nat.lt_or_ge b w.heap.size with q | q
      · exact hb.cell (p := ⟨b, o, none⟩) q
      · rw [h.new b q] at ho; omega
    · rcases Nat.lt_or_ge b w.heap.size with q | q
      · rw [hb.block b q]; exact keeps.of he
      · rw [h.new b q] at h0; omega
  exact ⟨hx, h.frame hx rfl (fun i _ => ⟨rfl, rfl, rfl, rfl, rfl⟩) (fun i hi hl => hb.block _ (h.blk hi hl)) (fun i hi hl => h1 _ (h.blk hi hl)) h2 hb.size (fun b q => h1 b (Nat.lt_of_lt_of_le q h.base))⟩

theorem callFn_res (hE : EnvOK C.E) (hS : ∀ f sp, C.spec f = some sp → SpecOK C f sp) {cl : Cl S} (hC : ClOK C cl) (h : RelM C K w B m) {f : FuncId} {args : List (V S)} {vs : Array Value} {x : V S} {m' : Mem S} (hl : vs.size = args.length)
    (hr : ∀ (j : Nat) (v : Value) (y : V S), vs[j]? = some v → args[j]? = some y → RepV C.E K w v y) (hx : (callFn C cl m f args).opt = some (x, m')) :
    Enters C.P f ∧ Calls C.P f vs w fun e w' => ∃ v K', e = .returned v ∧ Ext K w K' w' ∧ Below B w w' ∧ RelM C K' w' B m' ∧ RepV C.E K' w' v x := by
  unfold callFn at hx
  split at hx
  · rename_i sp hsp
    obtain ⟨cs, hcs, hx⟩ := opt_ofOpt_bind hx
    simp only [D.opt] at hx
    cases hrun : sp.run cs with
    | none => rw [hrun] at hx; simp at hx
    | some r =>
      rw [hrun] at hx
      simp only [Option.bind_some, D.opt, Option.some.injEq, Prod.mk.injEq] at hx
      obtain ⟨rfl, rfl⟩ := hx
      obtain ⟨hen, hspec⟩ := hS f sp hsp
      refine ⟨hen, ?_⟩
      obtain ⟨K1, x1, s1, r1, f1⟩ := freeze h (args.flatMap V.owns)
      have hcs' : decAll C.E (mark m (args.flatMap V.owns)) sp.args args = some cs := by
        rw [← hcs]
        have hlk := mark_like m (args.flatMap V.owns)
        generalize mark m (args.flatMap V.owns) = m2 at hlk
        have : ∀ (ts : List Ty) (xs : List (V S)), decAll C.E m2 ts xs = decAll C.E m ts xs := by
          intro ts
          induction ts with
          | nil => intro xs; cases xs <;> rfl
          | cons t ts ih => intro xs; cases xs with
            | nil => rfl
            | cons x xs => simp only [decAll, dec_like hlk t x, ih xs]
        exact this _ _
      obtain ⟨a1, a2⟩ := decAll_rep hE r1 sp.args args cs vs.toList (by simpa using hl) (fun j v y p q => (hr j v y (by simpa using p) q).mono x1) f1 hcs'
      refine (hspec K1.σ w vs cs r r1.glob r1.new ⟨by simpa using a1, fun j v c p q => a2 j v c (by simpa using p) q⟩ hrun).mono ?_
      rintro e w' ⟨v, σ', rfl, b1, b2, b3, b4⟩
      obtain ⟨y1, y2⟩ := r1.called b1 b2 b3
      exact ⟨v, _, rfl, x1.trans y1, b1.mono h.base, y2, b4.mono (gh0_to { K1 with σ := σ' } w')⟩
  · split at hx
    · rename_i hin
      obtain ⟨hen, hcl⟩ := hC f hin
      exact ⟨hen, hcl K w B m args vs x m' h hl hr hx⟩
    · simp [D.opt] at hx
end
end Go.Lv
