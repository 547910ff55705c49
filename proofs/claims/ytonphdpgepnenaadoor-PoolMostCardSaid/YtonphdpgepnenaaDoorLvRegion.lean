import Derived.Test.YtonphdpgepnenaaDoorLvComm
namespace Go.Lv
set_option linter.all false
open Go Go.RowKit
variable {S : Nat → Type}

section
variable (C : Ctx S) (cl : Cl S) (all : List Oper)

def beqB (a b : Bool) : Bool := a == b
def dstOf (j : Nat) : Option Nat := (all[j]?).bind (·.dst)
def guardV (v : Option (V S)) (want : Bool) : Option Bool := match v with
  | some (.cell .bool b) => some (beqB b want)
  | some (.tup []) => some false
  | _ => none
def evalI (o : Oper) (s : St S) : Option (V S × Mem S) :=
  match o.guard with
  | none => (semOp C cl s.mem (s.ev C) o).opt
  | some (j, want) => match dstOf all j with
    | some d => match guardV s.tmps[d]? want with
      | some true => (semOp C cl s.mem (s.ev C) o).opt
      | some false => some (.tup [], s.mem)
      | none => none
    | none => none
def stepO (o : Oper) (s : St S) : Option (St S) := (evalI C cl all o s).map fun p => s.put o.dst p
def stepI (i : Nat) (s : St S) : Option (St S) := match all[i]? with
  | none => some s
  | some o => stepO C cl all o s
def runL : List Nat → St S → Option (St S)
  | [], s => some s
  | i :: l, s => (stepI C cl all i s).bind (runL l)

def opTmps (o : Oper) : List Nat := o.op.operands.toList.filterMap fun | .tmp t => some t | _ => none
def reads (o : Oper) : List Nat := (match o.guard with | some (j, _) => (dstOf all j).toList | none => []) ++ opTmps o

def compat (o p : Oper) : Bool :=
  (cls (C := C) o == 0 || cls (C := C) p == 0 || (cls (C := C) o == 1 && cls (C := C) p == 1)) &&
  (match o.dst with | some d => !(reads all p).contains d | none => true) && (match p.dst with | some d => !(reads all o).contains d | none => true) &&
  (match o.dst, p.dst with | some a, some b => !(a == b) | _, _ => true)
/-- Of two in the text's order: the later one may be done ahead. -/
def compatD (o p : Oper) : Bool := compat C all o p || (isLC C o && isAl p &&
  (match o.dst with | some d => !(reads all p).contains d | none => true) && (match p.dst with | some d => !(reads all o).contains d | none => true) &&
  (match o.dst, p.dst with | some a, some b => !(a == b) | _, _ => true))
end

section
variable {C : Ctx S} {cl : Cl S} {all : List Oper}

theorem ev_congr {s s' : St S} {x : Operand} (h : ∀ t, x = .tmp t → s.tmps[t]? = s'.tmps[t]?) : s.ev C x = s'.ev C x := by
  cases x with
  | tmp t => simp only [St.ev, List.getD_eq_getElem?_getD, h t rfl]
  | _ => rfl

theorem evalI_congr {o : Oper} {s s' : St S} (h : ∀ t, t ∈ reads all o → s.tmps[t]? = s'.tmps[t]?) (hm : s.mem = s'.mem) : evalI C cl all o s = evalI C cl all o s' := by
  have hop : semOp C cl s.mem (s.ev C) o = semOp C cl s'.mem (s'.ev C) o := by
    rw [hm]
    refine semOp_congr cl _ o fun x hx => ev_congr fun t ht => h t ?_
    subst ht
    simp only [reads, List.mem_append]
    right
    simp only [opTmps, List.mem_filterMap]
    exact ⟨_, hx, rfl⟩
  unfold evalI
  cases hg : o.guard with
  | none => simp only [hop]
  | some g =>
    obtain ⟨j, want⟩ := g
    simp only
    cases hd : dstOf all j with
    | none => rfl
    | some d =>
      have := h d (by simp [reads, hg, hd])
      simp only [this, hm]
      split <;> first | exact congrArg D.opt (hm ▸ hop) | rfl

theorem evalI0 {o : Oper} (h : cls (C := C) o = 0) (tm : List (V S)) : ∃ F : Option (V S), ∀ m, evalI C cl all o ⟨tm, m⟩ = F.map fun v => (v, m) := by
  have hev : ∀ m m' : Mem S, (St.ev C ⟨tm, m⟩) = (St.ev C ⟨tm, m'⟩) := fun m m' => funext fun x => by cases x <;> rfl
  obtain ⟨F, hF⟩ := cls0 (C := C) cl (St.ev C ⟨tm, []⟩) o h
  have hF' : ∀ m, (semOp C cl m (St.ev C ⟨tm, m⟩) o).opt = F.map fun v => (v, m) := fun m => by rw [hev m []]; exact hF m
  unfold evalI
  cases hg : o.guard with
  | none => exact ⟨F, fun m => hF' m⟩
  | some g =>
    obtain ⟨j, want⟩ := g
    simp only
    cases hd : dstOf all j with
    | none => exact ⟨none, fun m => rfl⟩
    | some d =>
      simp only
      cases guardV tm[d]? want with
      | none => exact ⟨none, fun m => rfl⟩
      | some b => cases b with
        | true => exact ⟨F, fun m => hF' m⟩
        | false => exact ⟨some (.tup []), fun m => rfl⟩

theorem evalI1 {o : Oper} (h : cls (C := C) o = 1) (tm : List (V S)) : ∃ (F : Mem S → Option (V S)) (g : List Nat), (∀ m, evalI C cl all o ⟨tm, m⟩ = (F m).map fun v => (v, mark m g)) ∧ ∀ m m', Like m m' → F m' = F m := by
  have hev : ∀ m m' : Mem S, (St.ev C ⟨tm, m⟩) = (St.ev C ⟨tm, m'⟩) := fun m m' => funext fun x => by cases x <;> rfl
  obtain ⟨F, g, hF, hl⟩ := cls1 (C := C) cl (St.ev C ⟨tm, []⟩) (fun f => rfl) o h
  have hF' : ∀ m, (semOp C cl m (St.ev C ⟨tm, m⟩) o).opt = (F m).map fun v => (v, mark m g) := fun m => by rw [hev m []]; exact hF m
  unfold evalI
  cases hg : o.guard with
  | none => exact ⟨F, g, fun m => hF' m, hl⟩
  | some gd =>
    obtain ⟨j, want⟩ := gd
    simp only
    cases hd : dstOf all j with
    | none => exact ⟨fun _ => none, [], fun m => rfl, fun _ _ _ => rfl⟩
    | some d =>
      simp only
      cases guardV tm[d]? want with
      | none => exact ⟨fun _ => none, [], fun m => rfl, fun _ _ _ => rfl⟩
      | some b => cases b with
        | true => exact ⟨F, g, fun m => hF' m, hl⟩
        | false => exact ⟨fun _ => some (.tup []), [], fun m => rfl, fun _ _ _ => rfl⟩

theorem compat_symm {o p : Oper} (h : compat C all o p = true) : compat C all p o = true := by
  simp only [compat, Bool.and_eq_true, Bool.or_eq_true, beq_iff_eq] at h ⊢
  obtain ⟨⟨⟨h1, h2⟩, h3⟩, h4⟩ := h
  refine ⟨⟨⟨?_, h3⟩, h2⟩, ?_⟩
  · rcases h1 with (q | q) | ⟨q, r⟩
    · exact .inl (.inr q)
    · exact .inl (.inl q)
    · exact .inr ⟨r, q⟩
  · cases ho : o.dst <;> cases hp : p.dst <;> simp only [ho, hp] at h4 ⊢
    simp only [Bool.not_eq_true', beq_eq_false_iff_ne] at h4 ⊢
    exact fun q => h4 q.symm

def setD (tm : List (V S)) (d : Option Nat) (v : V S) : List (V S) := match d with | some d => tm.set d v | none => tm
theorem put_eq (s : St S) (d : Option Nat) (p : V S × Mem S) : s.put d p = ⟨setD s.tmps d p.1, p.2⟩ := by cases d <;> rfl
theorem setD_comm (tm : List (V S)) (d e : Option Nat) (u v : V S) (h : ∀ a b, d = some a → e = some b → a ≠ b) : setD (setD tm d u) e v = setD (setD tm e v) d u := by
  cases d with
  | none => rfl
  | some a => cases e with
    | none => rfl
    | some b => exact List.set_comm u v (h a b rfl rfl)
theorem setD_get (tm : List (V S)) (d : Option Nat) (u : V S) (t : Nat) (h : d ≠ some t) : (setD tm d u)[t]? = tm[t]? := by
  cases d with
  | none => rfl
  | some a => exact List.getElem?_set_ne (fun q => h (by rw [q]))

theorem commute {o p : Oper} (h : compat C all o p = true) (s : St S) : (stepO C cl all o s).bind (stepO C cl all p) = (stepO C cl all p s).bind (stepO C cl all o) := by
  have main : ∀ (o p : Oper), compat C all o p = true → (cls (C := C) o = 0 ∨ (cls (C := C) o = 1 ∧ cls (C := C) p = 1)) → (stepO C cl all o s).bind (stepO C cl all p) = (stepO C cl all p s).bind (stepO C cl all o) := by
    intro o p h hc
    simp only [compat, Bool.and_eq_true] at h
    obtain ⟨⟨⟨_, h2⟩, h3⟩, h4⟩ := h
    have n1 : ∀ t, t ∈ reads all p → o.dst ≠ some t := by
      intro t ht e
      rw [e] at h2
      simp only [Bool.not_eq_true', List.contains_eq_mem, decide_eq_false_iff_not] at h2
      exact h2 ht
    have n2 : ∀ t, t ∈ reads all o → p.dst ≠ some t := by
      intro t ht e
      rw [e] at h3
      simp only [Bool.not_eq_true', List.contains_eq_mem, decide_eq_false_iff_not] at h3
      exact h3 ht
    have n3 : ∀ a b, o.dst = some a → p.dst = some b → a ≠ b := by
      intro a b ha hb
      rw [ha, hb] at h4
      simp only [Bool.not_eq_true', beq_eq_false_iff_ne] at h4
      exact h4
    obtain ⟨tm, m⟩ := s
    rcases hc with hc | ⟨hc, hp⟩
    · obtain ⟨F, hF⟩ := evalI0 (C := C) (cl := cl) (all := all) hc tm
      simp only [stepO, hF m]
      cases F with
      | none =>
        simp only [Option.map_none, Option.bind_none]
        cases hp : evalI C cl all p ⟨tm, m⟩ with
        | none => rfl
        | some r =>
          simp only [Option.map_some, Option.bind_some, put_eq, stepO]
          have : evalI C cl all o ⟨setD tm p.dst r.1, r.2⟩ = none := by
            rw [evalI_congr (s := ⟨setD tm p.dst r.1, r.2⟩) (s' := ⟨tm, r.2⟩) (fun t ht => setD_get tm p.dst r.1 t (n2 t ht)) rfl, hF]; rfl
          rw [this]; rfl
      | some v =>
        simp only [Option.map_some, Option.bind_some, put_eq, stepO]
        have e1 : evalI C cl all p ⟨setD tm o.dst v, m⟩ = evalI C cl all p ⟨tm, m⟩ := evalI_congr (fun t ht => setD_get tm o.dst v t (n1 t ht)) rfl
        rw [e1]
        cases hp : evalI C cl all p ⟨tm, m⟩ with
        | none => rfl
        | some r =>
          simp only [Option.map_some, Option.bind_some, put_eq, stepO]
          have e2 : evalI C cl all o ⟨setD tm p.dst r.1, r.2⟩ = some (v, r.2) := by
            rw [evalI_congr (s := ⟨setD tm p.dst r.1, r.2⟩) (s' := ⟨tm, r.2⟩) (fun t ht => setD_get tm p.dst r.1 t (n2 t ht)) rfl, hF]; rfl
          rw [e2]
          simp only [Option.map_some, setD_comm tm o.dst p.dst v r.1 n3]
    · obtain ⟨F, g, hF, lF⟩ := evalI1 (C := C) (cl := cl) (all := all) hc tm
      obtain ⟨G, k, hG, lG⟩ := evalI1 (C := C) (cl := cl) (all := all) hp tm
      simp only [stepO, hF m, hG m]
      have e1 : ∀ v m', evalI C cl all p ⟨setD tm o.dst v, m'⟩ = (G m').map fun u => (u, mark m' k) := fun v m' => by
        rw [evalI_congr (s := ⟨setD tm o.dst v, m'⟩) (s' := ⟨tm, m'⟩) (fun t ht => setD_get tm o.dst v t (n1 t ht)) rfl, hG]
      have e2 : ∀ v m', evalI C cl all o ⟨setD tm p.dst v, m'⟩ = (F m').map fun u => (u, mark m' g) := fun v m' => by
        rw [evalI_congr (s := ⟨setD tm p.dst v, m'⟩) (s' := ⟨tm, m'⟩) (fun t ht => setD_get tm p.dst v t (n2 t ht)) rfl, hF]
      have q1 : G (mark m g) = G m := lG _ _ (mark_like m g)
      have q2 : F (mark m k) = F m := lF _ _ (mark_like m k)
      cases hf : F m with
      | none =>
        simp only [Option.map_none, Option.bind_none]
        cases hg : G m with
        | none => rfl
        | some u => simp only [Option.map_some, Option.bind_some, put_eq, stepO, e2, q2, hf, Option.map_none]
      | some v =>
        simp only [Option.map_some, Option.bind_some, put_eq, stepO, e1, q1]
        cases hg : G m with
        | none => rfl
        | some u =>
          simp only [Option.map_some, Option.bind_some, put_eq, stepO, e2, q2, hf, setD_comm tm o.dst p.dst v u n3, mark_comm m g k]
  have h' := h
  simp only [compat, Bool.and_eq_true, Bool.or_eq_true, beq_iff_eq] at h'
  rcases h'.1.1.1 with (q | q) | ⟨q, r⟩
  · exact main o p h (.inl q)
  · exact (main p o (compat_symm h) (.inl q)).symm
  · exact main o p h (.inr ⟨q, r⟩)

theorem evalLC (hE : EnvOK C.E) {o : Oper} (h : isLC C o = true) (tm : List (V S)) : ∃ (F : Mem S → Option (V S)) (g : List Nat), (∀ m, evalI C cl all o ⟨tm, m⟩ = (F m).map fun v => (v, mark m g)) ∧ ∀ m m' v, Sub m m' → F m = some v → F m' = some v := by
  have hev : ∀ m m' : Mem S, (St.ev C ⟨tm, m⟩) = (St.ev C ⟨tm, m'⟩) := fun m m' => funext fun x => by cases x <;> rfl
  obtain ⟨F, g, hF, hl⟩ := lc_op (C := C) hE cl (St.ev C ⟨tm, []⟩) (fun f => rfl) o h
  have hF' : ∀ m, (semOp C cl m (St.ev C ⟨tm, m⟩) o).opt = (F m).map fun v => (v, mark m g) := fun m => by rw [hev m []]; exact hF m
  unfold evalI
  cases hg : o.guard with
  | none => exact ⟨F, g, fun m => hF' m, hl⟩
  | some gd =>
    obtain ⟨j, want⟩ := gd
    simp only
    cases hd : dstOf all j with
    | none => exact ⟨fun _ => none, [], fun m => rfl, fun _ _ _ _ h => by cases h⟩
    | some d =>
      simp only
      cases guardV tm[d]? want with
      | none => exact ⟨fun _ => none, [], fun m => rfl, fun _ _ _ _ h => by cases h⟩
      | some b => cases b with
        | true => exact ⟨F, g, fun m => hF' m, hl⟩
        | false => exact ⟨fun _ => some (.tup []), [], fun m => rfl, fun _ _ _ _ h => h⟩
theorem evalAl {o : Oper} (h : isAl o = true) (tm : List (V S)) : ∃ Z : Option (Option (List (V S))), ∀ m, evalI C cl all o ⟨tm, m⟩ = Z.map fun z => match z with
    | some cs => (.ptr m.length 0, m ++ [.box cs false])
    | none => (.tup [], m) := by
  have hev : ∀ m m' : Mem S, (St.ev C ⟨tm, m⟩) = (St.ev C ⟨tm, m'⟩) := fun m m' => funext fun x => by cases x <;> rfl
  obtain ⟨Z, hZ⟩ := al_op (C := C) cl (St.ev C ⟨tm, []⟩) o h
  have hZ' : ∀ m, (semOp C cl m (St.ev C ⟨tm, m⟩) o).opt = (Z.map some).map fun z => match z with
    | some cs => (.ptr m.length 0, m ++ [.box cs false])
    | none => (.tup [], m) := fun m => by rw [hev m [], hZ m]; cases Z <;> rfl
  unfold evalI
  cases hg : o.guard with
  | none => exact ⟨Z.map some, fun m => hZ' m⟩
  | some gd =>
    obtain ⟨j, want⟩ := gd
    simp only
    cases hd : dstOf all j with
    | none => exact ⟨none, fun m => rfl⟩
    | some d =>
      simp only
      cases guardV tm[d]? want with
      | none => exact ⟨none, fun m => rfl⟩
      | some b => cases b with
        | true => exact ⟨Z.map some, fun m => hZ' m⟩
        | false => exact ⟨some none, fun m => rfl⟩
theorem commuteD (hE : EnvOK C.E) {o p : Oper} (h : compatD C all o p = true) (s s' : St S) (hs : (stepO C cl all o s).bind (stepO C cl all p) = some s') : (stepO C cl all p s).bind (stepO C cl all o) = some s' := by
  simp only [compatD, Bool.or_eq_true, Bool.and_eq_true] at h
  rcases h with h | ⟨⟨⟨⟨hlc, hal⟩, h2⟩, h3⟩, h4⟩
  · rw [← commute h]; exact hs
  have n1 : ∀ t, t ∈ reads all p → o.dst ≠ some t := by
    intro t ht e
    rw [e] at h2
    simp only [Bool.not_eq_true', List.contains_eq_mem, decide_eq_false_iff_not] at h2
    exact h2 ht
  have n2 : ∀ t, t ∈ reads all o → p.dst ≠ some t := by
    intro t ht e
    rw [e] at h3
    simp only [Bool.not_eq_true', List.contains_eq_mem, decide_eq_false_iff_not] at h3
    exact h3 ht
  have n3 : ∀ a b, o.dst = some a → p.dst = some b → a ≠ b := by
    intro a b ha hb
    rw [ha, hb] at h4
    simp only [Bool.not_eq_true', beq_eq_false_iff_ne] at h4
    exact h4
  obtain ⟨tm, m⟩ := s
  obtain ⟨F, g, hF, hsub⟩ := evalLC (cl := cl) (all := all) hE hlc tm
  obtain ⟨Z, hZ⟩ := evalAl (C := C) (cl := cl) (all := all) hal tm
  have e1 : ∀ v m', evalI C cl all p ⟨setD tm o.dst v, m'⟩ = evalI C cl all p ⟨tm, m'⟩ := fun v m' => evalI_congr (s := ⟨setD tm o.dst v, m'⟩) (s' := ⟨tm, m'⟩) (fun t ht => setD_get tm o.dst v t (n1 t ht)) rfl
  have e2 : ∀ v m', evalI C cl all o ⟨setD tm p.dst v, m'⟩ = evalI C cl all o ⟨tm, m'⟩ := fun v m' => evalI_congr (s := ⟨setD tm p.dst v, m'⟩) (s' := ⟨tm, m'⟩) (fun t ht => setD_get tm p.dst v t (n2 t ht)) rfl
  simp only [stepO, hF m] at hs
  cases hv : F m with
  | none => rw [hv] at hs; cases hs
  | some v =>
    rw [hv] at hs
    simp only [Option.map_some, Option.bind_some, put_eq, stepO, e1, hZ] at hs
    cases Z with
    | none => cases hs
    | some z =>
      simp only [stepO, hZ m, Option.map_some, Option.bind_some, put_eq, e2]
      cases z with
      | none =>
        simp only [Option.map_some, Option.some.injEq] at hs
        subst hs
        simp only [hF, hv, Option.map_some, setD_comm tm o.dst p.dst v _ n3]
      | some cs =>
        simp only [Option.map_some, Option.some.injEq] at hs
        subst hs
        simp only [hF, hsub m _ v (sub_app m _) hv, Option.map_some, mark_app, mark_len', setD_comm tm o.dst p.dst v _ n3]

theorem bubble (hE : EnvOK C.E) (i : Nat) : ∀ (pre post : List Nat) (s s' : St S), (∀ p, p ∈ pre → ∀ o q, all[p]? = some o → all[i]? = some q → compatD C all o q = true) → runL C cl all (pre ++ i :: post) s = some s' → runL C cl all (i :: (pre ++ post)) s = some s'
  | [], post, s, s', _, hr => hr
  | p :: pre, post, s, s', h, hr => by
    simp only [List.cons_append, runL] at hr
    obtain ⟨s1, h1, h2⟩ := Option.bind_eq_some_iff.1 hr
    have ih := bubble hE i pre post s1 s' (fun q hq => h q (by simp [hq])) h2
    simp only [runL] at ih
    obtain ⟨s2, h3, h4⟩ := Option.bind_eq_some_iff.1 ih
    have e : (stepI C cl all p s).bind (stepI C cl all i) = some s2 := by rw [h1]; exact h3
    have e2 : (stepI C cl all i s).bind (stepI C cl all p) = some s2 := by
      unfold stepI at e ⊢
      cases hp : all[p]? with
      | none =>
        rw [hp] at e
        simp only [Option.bind_some] at e
        cases hi : all[i]? with
        | none => rw [hi] at e; simpa using e
        | some o => rw [hi] at e; simp only at e ⊢; rw [e]; rfl
      | some o =>
        rw [hp] at e
        cases hi : all[i]? with
        | none =>
          rw [hi] at e
          simp only [Option.bind_some] at e ⊢
          cases hso : stepO C cl all o s with
          | none => rw [hso] at e; cases e
          | some s3 => rw [hso] at e; exact e
        | some q => rw [hi] at e; exact commuteD hE (h p (by simp) o q hp hi) s s2 e
    show (stepI C cl all i s).bind (runL C cl all (p :: (pre ++ post))) = some s'
    obtain ⟨s3, h5, h6⟩ := Option.bind_eq_some_iff.1 e2
    rw [h5]
    show (stepI C cl all p s3).bind (runL C cl all (pre ++ post)) = some s'
    rw [h6]
    exact h4

/-- What must be ahead. -/
def preds (o : Oper) : List Nat := o.after.toList.filterMap fun e => if Region.binds .any e then some e.on else none
def maskOf (acc : List Nat) : List Nat → Nat
  | [] => 0
  | e :: es => (2 ^ e ||| acc.getD e 0) ||| maskOf acc es
def befGo : List Oper → List Nat → List Nat
  | [], acc => acc
  | o :: r, acc => befGo r (acc ++ [maskOf acc (preds o)])
def chkFrom (C : Ctx S) (all : List Oper) (bef : List Nat) : Nat → List Oper → Bool
  | _, [] => true
  | i, o :: r => (preds o).all (fun e => decide (e < i)) && (List.range i).all (fun p => (bef.getD i 0).testBit p || (match all[p]? with | some q => compatD C all q o | none => true)) && chkFrom C all bef (i + 1) r
def chkRegion (C : Ctx S) (all : List Oper) : Bool := chkFrom C all (befGo all []) 0 all

theorem mask_bit (acc : List Nat) (p : Nat) : ∀ es, (maskOf acc es).testBit p = true → ∃ e, e ∈ es ∧ (e = p ∨ (acc.getD e 0).testBit p = true)
  | [], h => by simp [maskOf] at h
  | e :: es, h => by
    simp only [maskOf, Nat.testBit_or, Bool.or_eq_true] at h
    rcases h with (h | h) | h
    · rw [Nat.testBit_two_pow] at h
      exact ⟨e, by simp, .inl (by simpa using h)⟩
    · exact ⟨e, by simp, .inr h⟩
    · obtain ⟨e', h1, h2⟩ := mask_bit acc p es h
      exact ⟨e', by simp [h1], h2⟩

theorem getD_app (a b : List Nat) (i : Nat) (h : i < a.length) : (a ++ b).getD i 0 = a.getD i 0 := by simp [List.getD_eq_getElem?_getD, List.getElem?_append_left h]
theorem bef_get : ∀ (r : List Oper) (acc : List Nat) (i : Nat), i < acc.length → (befGo r acc).getD i 0 = acc.getD i 0
  | [], _, _, _ => rfl
  | o :: r, acc, i, h => by
    simp only [befGo]
    rw [bef_get r _ i (by simp; omega), getD_app _ _ _ h]

theorem bef_bit : ∀ (r : List Oper) (acc : List Nat) (i : Nat) (o : Oper), r[i]? = some o → (∀ e, e ∈ preds o → e < acc.length + i) → ∀ p, ((befGo r acc).getD (acc.length + i) 0).testBit p = true → ∃ e, e ∈ preds o ∧ (e = p ∨ ((befGo r acc).getD e 0).testBit p = true)
  | [], _, i, o, h, _, _, _ => by simp at h
  | o' :: r, acc, 0, o, h, hlt, p, hb => by
    simp at h
    subst h
    simp only [befGo] at hb ⊢
    rw [Nat.add_zero, bef_get r _ _ (by simp)] at hb
    simp only [List.getD_eq_getElem?_getD, List.getElem?_concat_length, Option.getD_some] at hb
    obtain ⟨e, h1, h2⟩ := mask_bit acc p _ hb
    refine ⟨e, h1, h2.imp id fun q => ?_⟩
    have := hlt e h1
    rw [bef_get r _ _ (by simp; omega), getD_app _ _ _ (by omega)]
    exact q
  | o' :: r, acc, i + 1, o, h, hlt, p, hb => by
    simp only [befGo] at hb ⊢
    have := bef_bit r (acc ++ [maskOf acc (preds o')]) i o (by simpa using h) (fun e he => by have := hlt e he; simp; omega) p (by simp only [List.length_append, List.length_cons, List.length_nil]; rw [show acc.length + (0 + 1) + i = acc.length + (i + 1) by omega]; exact hb)
    exact this

theorem chk_at (bef : List Nat) : ∀ (r : List Oper) (k : Nat), chkFrom C all bef k r = true → ∀ (i : Nat) (o : Oper), r[i]? = some o →
    (∀ e, e ∈ preds o → e < k + i) ∧ ∀ p, p < k + i → (bef.getD (k + i) 0).testBit p = true ∨ ∀ q, all[p]? = some q → compatD C all q o = true
  | [], _, _, i, o, h => by simp at h
  | o' :: r, k, h, i, o, ho => by
    simp only [chkFrom, Bool.and_eq_true] at h
    obtain ⟨⟨h1, h2⟩, h3⟩ := h
    cases i with
    | zero =>
      simp at ho
      subst ho
      refine ⟨fun e he => ?_, fun p hp => ?_⟩
      · rw [List.all_eq_true] at h1
        simpa using h1 e he
      · rw [List.all_eq_true] at h2
        have := h2 p (by simpa using hp)
        simp only [Bool.or_eq_true] at this
        refine this.imp id fun q r hr => ?_
        rw [hr] at q; exact q
    | succ i =>
      have := chk_at bef r (k + 1) h3 i o (by simpa using ho)
      rwa [show k + 1 + i = k + (i + 1) by omega] at this
end
end Go.Lv
