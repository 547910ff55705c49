import Derived.Test.YtonphdpgepnenaaDoorLvEx
import Derived.Scope
import Derived.Laws.Sem
namespace Go.Lv
set_option linter.all false
open Go Go.RowKit
variable {S : Nat → Type}

/-- What runs to its end. -/
def Runs (P : Program) (b : Frame) (cs : List Frame) (todo : List Item) (a : Act) (w : World) (Q : Act → World → Prop) : Prop :=
  ∃ a' w' t', Q a' w' ∧ Steps P (lone (b.at a todo) cs w) (lone { b.at a' t' with mode := .returning } cs w')

theorem Runs.head {P : Program} {b : Frame} {cs : List Frame} {todo todo' : List Item} {a a' : Act} {w w' : World} {Q : Act → World → Prop}
    (h : step P (lone (b.at a todo) cs w) = .next (lone (b.at a' todo') cs w')) (h' : Runs P b cs todo' a' w' Q) : Runs P b cs todo a w Q := by
  obtain ⟨a2, w2, t2, q, s⟩ := h'
  exact ⟨a2, w2, t2, q, .head h s⟩

section
variable (C : Ctx S)
def codeOk : Code → Bool
  | .seq a b => codeOk a && codeOk b
  | .cond _ a b => codeOk a && codeOk b
  | .block _ b => codeOk b
  | .scope b => codeOk b
  | .loop b => codeOk b
  | .region _ ops true => chkRegion C ops.toList
  | _ => true
def itemOk : Item → Bool
  | .code c => codeOk C c
  | .inLoop c => codeOk C c
  | _ => true
def itemsOk : List Item → Bool
  | [] => true
  | i :: k => itemOk C i && itemsOk k
/-- A function that may be gone into. -/
def fnOk (f : FuncId) : Bool := match C.P.funcs[f]? with
  | some fn => match fn.body with
    | some b => codeOk C b && !(fn.name == "runtime.NumGoroutine")
    | none => false
  | none => false
end

section
variable {C : Ctx S} {cl : Cl S} {B : Nat}

theorem exitTo_ok {id : Nat} : ∀ {k k' : List Item}, exitTo id k = some k' → itemsOk C k = true → itemsOk C k' = true
  | [], k', h, _ => by simp [exitTo] at h
  | i :: k, k', h, ho => by
    simp only [itemsOk, Bool.and_eq_true] at ho
    cases i with
    | inBlock j =>
      simp only [exitTo] at h
      split at h
      · cases h; exact ho.2
      · exact exitTo_ok h ho.2
    | _ => exact exitTo_ok (by simpa [exitTo] using h) ho.2

/-- Where a call stands. -/
def At (C : Ctx S) (B : Nat) (K0 : Gh) (w0 : World) (s : St S) (a : Act) (w : World) : Prop := ∃ K, Ext K0 w0 K w ∧ Below B w0 w ∧ RelS C K w B s a

theorem ex_ok (hE : EnvOK C.E) (hT : TyOK C) (hS : ∀ f sp, C.spec f = some sp → SpecOK C f sp) (hC : ClOK C cl) (hM : C.P.follows .mixedOrders = true) {K0 : Gh} {w0 : World} {b : Frame} {cs : List Frame}
    {R : Type} {L : Lp S R} {fin : St S → D R} {T : R → Act → World → Prop}
    (hL : ∀ c k s r a w, itemsOk C (.inLoop c :: k) = true → At C B K0 w0 s a w → (L (.inLoop c :: k) s).opt = some r → Runs C.P b cs (.code c :: .inLoop c :: k) a w (T r))
    (hF : ∀ s r a w, At C B K0 w0 s a w → (fin s).opt = some r → T r a w) :
    ∀ (n : Nat) (todo : List Item) (s : St S) (r : R) (a : Act) (w : World), itemsOk C todo = true → At C B K0 w0 s a w → (ex C cl L fin n todo s).opt = some r → Runs C.P b cs todo a w (T r)
  | 0, todo, s, r, a, w, _, _, h => by simp [ex, D.opt] at h
  | n + 1, todo, s, r, a, w, hk, hA, h => by
    have ih := ex_ok hE hT hS hC hM hL hF n
    cases todo with
    | nil =>
      simp only [ex] at h
      exact ⟨a, w, [], hF s r a w hA h, .one step_end⟩
    | cons it k =>
      have hk' := hk
      simp only [itemsOk, Bool.and_eq_true] at hk
      obtain ⟨hi, hk⟩ := hk
      cases it with
      | inBlock id => simp only [ex] at h; exact .head step_inBlock (ih k s r a w hk hA h)
      | inScope c => simp only [ex] at h; exact .head step_inScope (ih k s r a w hk hA h)
      | inLoop c => simp only [ex] at h; exact .head step_inLoop (hL c k s r a w hk' hA h)
      | code c =>
        cases c with
        | ret => simp only [ex] at h; exact ⟨a, w, _, hF s r a w hA h, .one step_ret⟩
        | skip => simp only [ex] at h; exact .head step_skip (ih k s r a w hk hA h)
        | label l => simp only [ex] at h; exact .head step_label (ih k s r a w hk hA h)
        | seq x y =>
          simp only [ex] at h
          simp only [itemOk, codeOk, Bool.and_eq_true] at hi
          exact .head step_seq (ih _ s r a w (by simp [itemsOk, itemOk, hi, hk]) hA h)
        | block id x =>
          simp only [ex] at h
          simp only [itemOk, codeOk] at hi
          exact .head step_block (ih _ s r a w (by simp [itemsOk, itemOk, hi, hk]) hA h)
        | scope x =>
          simp only [ex] at h
          simp only [itemOk, codeOk] at hi
          exact .head step_scope (ih _ s r a w (by simp [itemsOk, itemOk, hi, hk]) hA h)
        | loop x =>
          simp only [ex] at h
          simp only [itemOk, codeOk] at hi
          exact .head step_loop (hL x k s r a w (by simp [itemsOk, itemOk, hi, hk]) hA h)
        | exit id =>
          simp only [ex] at h
          cases he : exitTo id k with
          | none => rw [he] at h; simp [D.opt] at h
          | some k' =>
            rw [he] at h
            exact .head (step_exit he) (ih k' s r a w (exitTo_ok he hk) hA h)
        | cond c x y =>
          simp only [ex] at h
          simp only [itemOk, codeOk, Bool.and_eq_true] at hi
          obtain ⟨K, x1, x2, x3⟩ := hA
          have hc := x3.ev c
          split at h
          · rename_i bb hb
            rw [hb] at hc
            have hcv : a.eval c = .bool bb := bool_of hc
            rcases split_some h with ⟨hbb, h⟩ | ⟨hbb, h⟩
            · have hcv' : a.eval c = .bool true := hcv.trans (congrArg Value.bool hbb)
              exact .head (step_cond (t := true) hcv') (ih (.code x :: k) s r a w (by simp [itemsOk, itemOk, hi, hk]) ⟨K, x1, x2, x3⟩ h)
            · have hcv' : a.eval c = .bool false := hcv.trans (congrArg Value.bool hbb)
              exact .head (step_cond (t := false) hcv') (ih (.code y :: k) s r a w (by simp [itemsOk, itemOk, hi, hk]) ⟨K, x1, x2, x3⟩ h)
          · simp [D.opt] at h
        | region id ops draw =>
          simp only [ex] at h
          obtain ⟨s', hs', h⟩ := opt_bind_some h
          have hrun := semOps_run (C := C) (cl := cl) (all := ops.toList) ops.toList 0 s s' (fun i => by simp) hs'
          obtain ⟨K, x1, x2, x3⟩ := hA
          have hrange : List.range' 0 ops.toList.length = List.range ops.size := by rw [List.range_eq_range']; simp
          rw [hrange] at hrun
          have go : ∀ (l : List Nat) (w1 : World) (K1 : Gh), Ext K0 w0 K1 w1 → Below B w0 w1 → RelS C K1 w1 B s a → runL C cl ops.toList l s = some s' → Runs C.P b cs (.inRegion ops l :: k) a w1 (T r) := by
            intro l w1 K1 y1 y2 y3 hl
            have := run_ok (Q := fun e a' w' => e = .normal ∧ At C B K0 w0 s' a' w') hE hT hS hC ops l K1 w1 s s' a y3 hl (fun K' w' a' z1 z2 z3 => ⟨rfl, K', y1.trans z1, y2.trans z2, z3⟩)
            obtain ⟨e, a', w', ⟨rfl, hA'⟩, harr⟩ := wp_ops l a w1 this b k cs
            obtain ⟨a2, w2, t2, q, st⟩ := ih k s' r a' w' hk hA' h
            exact ⟨a2, w2, t2, q, Steps.trans harr st⟩
          cases draw with
          | false => exact .head step_region (go _ w K x1 x2 x3 hrun)
          | true =>
            simp only [itemOk, codeOk] at hi
            refine .head step_region_draw (go _ _ K (x1.trans ?_) (x2.trans ?_) ?_ ?_)
            · exact ⟨Nat.le_refl _, fun _ _ => ⟨Nat.le_refl _, fun _ => ⟨rfl, rfl, rfl⟩⟩, fun _ => Nat.le_refl _, fun _ _ _ => rfl, fun _ _ _ h => keeps.of h, .inr rfl⟩
            · exact ⟨rfl, rfl, rfl, Nat.le_refl _, fun _ _ => rfl⟩
            · have hx : Ext K w K { w with drawn := w.drawn + 1 } := ⟨Nat.le_refl _, fun _ _ => ⟨Nat.le_refl _, fun _ => ⟨rfl, rfl, rfl⟩⟩, fun _ => Nat.le_refl _, fun _ _ _ => rfl, fun _ _ _ h => keeps.of h, .inr rfl⟩
              exact ⟨x3.size, fun j c v p q => (x3.tmps j c v p q).mono hx, x3.defers, x3.mem.frame hx rfl (fun _ _ => ⟨rfl, rfl, rfl, rfl, rfl⟩) (fun _ _ _ => rfl) (fun _ _ _ => rfl) (fun b' hb => x3.mem.new b' hb) (Nat.le_refl _) (fun _ _ => rfl)⟩
            · rw [hM]; exact sched_ok hE ops hi _ _ _ hrun
        | _ => simp [ex, D.opt] at h
      | _ => simp [ex, D.opt] at h

/-- A call's start. -/
theorem RelS.start {K : Gh} {w : World} {m : Mem S} (h : RelM C K w B m) (fn : Func) {args : List (V S)} {vs : Array Value} (hl : vs.size = args.length)
    (hr : ∀ (j : Nat) (v : Value) (y : V S), vs[j]? = some v → args[j]? = some y → RepV C.E K w v y) :
    RelS C K w B (st0 fn args m) { tmps := vs ++ Array.replicate (fn.ntmps - vs.size) undef, defers := [] } := by
  refine ⟨by simp [st0, hl], fun j c v p q => ?_, rfl, h⟩
  simp only [st0] at p q
  by_cases e : j < vs.size
  · rw [Array.getElem?_append_left e] at p
    rw [List.getElem?_append_left (by omega)] at q
    exact hr j c v p q
  · rw [List.getElem?_append_right (by omega)] at q
    rw [List.getElem?_replicate] at q
    split at q
    · cases q; exact .undef _
    · cases q

def resF (tmps : Array Value) : ResultVar → Sem Value
  | .tmp t => pure (tmps.getD t undef)
  | .cell a t => do loadVar t (← asAddr (tmps.getD a undef))

theorem resF_run {K : Gh} {w : World} {s : St S} {a : Act} (h : RelS C K w B s a) {y : ResultVar} {x : V S} (hx : resOne C s y = some x) : ∃ v, (resF a.tmps y).run C.P w = .ok v w ∧ RepV C.E K w v x := by
  cases y with
  | tmp t =>
    simp only [resOne, Option.some.injEq] at hx
    subst hx
    exact ⟨_, by simp only [resF, Sem.run_pure], RepV.getD h.size h.tmps t⟩
  | cell q t =>
    have hq : RepV C.E K w (a.tmps.getD q undef) (s.tmps.getD q .undef) := RepV.getD h.size h.tmps q
    simp only [resOne] at hx
    split at hx
    · rename_i id off hp
      rw [hp] at hq
      split at hx
      · rename_i cs fz hm
        obtain ⟨hg, f, hc, hr⟩ := box_cells h.mem hm
        simp only [resF]
        generalize a.tmps.getD q undef = u at hq ⊢
        cases hq with
        | ptr _ _ _ hn hpp hh =>
          obtain ⟨r, h1, h2⟩ := load_rep hc hr hx
          rw [Nat.zero_add] at h1
          refine ⟨r, ?_, h2⟩
          rw [hh hg]
          have e : (do loadVar t (← asAddr (.pointer (some ⟨K.ι id, off, none⟩))) : Sem Value) = Instr.loadAt t (.pointer (some ⟨K.ι id, off, none⟩)) := by
            simp [asAddr, Instr.loadAt, Instr.sureAddr]
          rw [e]
          exact h1
      · cases hx
    · cases hx

theorem resF_all {K : Gh} {w : World} {s : St S} {a : Act} (h : RelS C K w B s a) : ∀ (l : List ResultVar) (ys : List (V S)), allM (l.map (resOne C s)) = some ys → ∃ vs : List Value, vs.length = ys.length ∧ (l.mapM (resF a.tmps)).run C.P w = .ok vs w ∧ ∀ (j : Nat) (v : Value) (y : V S), vs[j]? = some v → ys[j]? = some y → RepV C.E K w v y
  | [], ys, hy => by
    simp only [List.map_nil, allM, Option.some.injEq] at hy
    subst hy
    exact ⟨[], rfl, by simp only [List.mapM_nil, Sem.run_pure], fun j v y hv => by simp at hv⟩
  | r :: l, ys, hy => by
    simp only [List.map_cons] at hy
    cases h1 : resOne C s r with
    | none => rw [h1] at hy; cases hy
    | some x =>
      rw [h1] at hy
      simp only [allM] at hy
      cases h2 : allM (l.map (resOne C s)) with
      | none => rw [h2] at hy; cases hy
      | some zs =>
        rw [h2] at hy
        simp only [Option.map_some, Option.some.injEq] at hy
        subst hy
        obtain ⟨v, v1, v2⟩ := resF_run h h1
        obtain ⟨vs, q1, q2, q3⟩ := resF_all h l zs h2
        refine ⟨v :: vs, by simp [q1], ?_, fun j u y hu hy => ?_⟩
        · rw [List.mapM_cons]
          simp only [Sem.run_bind, v1, Result.andThen_ok, q2, Sem.run_pure]
        · cases j with
          | zero => simp only [List.getElem?_cons_zero, Option.some.injEq] at hu hy; subst hu hy; exact v2
          | succ j => exact q3 j u y hu hy

theorem results_run {K : Gh} {w : World} {s : St S} {a : Act} (h : RelS C K w B s a) (fn : Func) {x : V S} (hx : resV C fn.results.toList s = some x) :
    ∃ v, (results fn a.tmps).run C.P w = .ok v w ∧ RepV C.E K w v x := by
  have e : results fn a.tmps = (fn.results.mapM (resF a.tmps)) >>= fun vs => pure (if h : vs.size = 1 then vs[0] else .tuple vs) := rfl
  have main : ∀ (ys : List (V S)), allM (fn.results.toList.map (resOne C s)) = some ys → ∃ vs : List Value, vs.length = ys.length ∧ (results fn a.tmps).run C.P w = .ok (if h : vs.toArray.size = 1 then vs.toArray[0] else .tuple vs.toArray) w ∧ ∀ (j : Nat) (v : Value) (y : V S), vs[j]? = some v → ys[j]? = some y → RepV C.E K w v y := by
    intro ys hy
    obtain ⟨vs, q1, q2, q3⟩ := resF_all h _ ys hy
    refine ⟨vs, q1, ?_, q3⟩
    rw [e, Array.mapM_eq_mapM_toList]
    simp only [Sem.run_bind, map_eq_pure_bind, q2, Result.andThen_ok, Sem.run_pure]
  unfold resV at hx
  split at hx
  · rename_i v0 hv
    simp only [Option.some.injEq] at hx
    subst hx
    obtain ⟨vs, q1, q2, q3⟩ := main [v0] (by rw [hv]; rfl)
    match vs, q1, q2, q3 with
    | [u], _, q2, q3 =>
      refine ⟨_, q2, ?_⟩
      have : (if h : [u].toArray.size = 1 then [u].toArray[0] else Value.tuple [u].toArray) = u := rfl
      rw [this]
      exact q3 0 u v0 rfl rfl
  · rename_i hne
    cases hall : allM (fn.results.toList.map (resOne C s)) with
    | none => rw [hall] at hx; cases hx
    | some ys =>
      rw [hall] at hx
      simp only [Option.map_some, Option.some.injEq] at hx
      subst hx
      obtain ⟨vs, q1, q2, q3⟩ := main ys hall
      have hn : vs.toArray.size ≠ 1 := by
        intro h1
        have h1' : ys.length = 1 := by rw [← q1]; simpa using h1
        match ys, h1' with
        | [y], _ =>
          have inv : ∀ l : List (Option (V S)), allM l = some [y] → l = [some y] := by
            intro l hl
            match l, hl with
            | [], hl => simp [allM] at hl
            | none :: _, hl => simp [allM] at hl
            | some z :: r, hl =>
              simp only [allM] at hl
              cases hr : allM r with
              | none => rw [hr] at hl; cases hl
              | some q =>
                rw [hr] at hl
                simp only [Option.map_some, Option.some.injEq, List.cons.injEq] at hl
                obtain ⟨rfl, rfl⟩ := hl
                match r, hr with
                | [], _ => rfl
                | none :: _, hr => simp [allM] at hr
                | some u :: r', hr =>
                  simp only [allM] at hr
                  cases hq : allM r' <;> rw [hq] at hr <;> simp at hr
          exact hne _ (inv _ hall)
      refine ⟨_, q2, ?_⟩
      rw [dif_neg hn]
      refine .tup _ _ (by simpa using q1) fun j c y p q => q3 j c y (by simpa using p) q

theorem calls_of_runs {P : Program} {f : FuncId} {fn : Func} {c : Code} {args : Array Value} {w : World} {R : Ending → World → Prop} (hf : P.funcs[f]? = some fn) (hb : fn.body = some c)
    (h : ∀ b cs, Runs P b cs [.code c] { tmps := args ++ Array.replicate (fn.ntmps - args.size) undef, defers := [] } w fun a w' => a.defers = [] ∧ ∃ v, (results fn a.tmps).run P w' = .ok v w' ∧ R (.returned v) w') :
    Calls P f args w R := by
  intro cs
  let b : Frame := { (default : Frame) with fn := f, kind := .normal }
  have henter : Frame.enter P f args .normal = b.at { tmps := args ++ Array.replicate (fn.ntmps - args.size) undef, defers := [] } [.code c] := by
    simp [Frame.enter, Frame.at, hf, hb, b]
  obtain ⟨a', w', t', ⟨hd, v, hr, hR⟩, hs⟩ := h b cs
  rw [← henter] at hs
  exact ⟨.returned v, w', _, hR, hs, rfl, rfl, hd, rfl, fn, hf, hr⟩

/-- What is gone into. -/
theorem clD_ok (hE : EnvOK C.E) (hT : TyOK C) (hS : ∀ f sp, C.spec f = some sp → SpecOK C f sp) (hM : C.P.follows .mixedOrders = true) (hI : ∀ f, C.inl f = true → fnOk C f = true) : ∀ d, ClOK C (clD C d)
  | 0 => fun f hf => by
    refine ⟨enters hI f hf, fun K w B m args vs x m' _ _ _ h => by simp [clD, D.opt] at h⟩
  | d + 1 => fun f hf => by
    refine ⟨enters hI f hf, fun K w B m args vs x m' hm hl hr h => ?_⟩
    have hok := hI f hf
    unfold fnOk at hok
    simp only [clD] at h
    cases hfn : C.P.funcs[f]? with
    | none => rw [hfn] at hok; cases hok
    | some fn =>
      rw [hfn] at hok h
      simp only at hok h
      cases hb : fn.body with
      | none => rw [hb] at hok; cases hok
      | some c =>
        rw [hb] at hok h
        simp only [Bool.and_eq_true] at hok h
        obtain ⟨hc, hname⟩ := hok
        refine calls_of_runs hfn hb fun b cs => ?_
        have := ex_ok (B := B) (K0 := K) (w0 := w) (b := b) (cs := cs) (L := fun _ _ => .fail) (fin := fun s => (D.ofOpt (resV C fn.results.toList s)).bind fun v => .ret (v, s.mem))
          (T := fun r a w' => a.defers = [] ∧ ∃ v, (results fn a.tmps).run C.P w' = .ok v w' ∧ ∃ K', Ext K w K' w' ∧ Below B w w' ∧ RelM C K' w' B r.2 ∧ RepV C.E K' w' v r.1)
          hE hT hS (clD_ok hE hT hS hM hI d) hM (fun c k s r a w _ _ hh => by simp [D.opt] at hh)
          (fun s r a w' ⟨K', x1, x2, x3⟩ hh => by
            obtain ⟨y, hy, hh⟩ := opt_ofOpt_bind hh
            simp only [D.opt, Option.some.injEq] at hh
            subst hh
            obtain ⟨v, v1, v2⟩ := results_run x3 fn hy
            exact ⟨x3.defers, v, v1, K', x1, x2, x3.mem, v2⟩)
          fuel [.code c] (st0 fn args m) (x, m') _ w (by simp [itemsOk, itemOk, hc]) ⟨K, .refl K w, Below.refl B w, RelS.start hm fn hl hr⟩ h
        obtain ⟨a', w', t', ⟨hd, v, v1, K', q1, q2, q3, q4⟩, st⟩ := this
        exact ⟨a', w', t', ⟨hd, v, v1, v, K', rfl, q1, q2, q3, q4⟩, st⟩
where
  enters (hI : ∀ f, C.inl f = true → fnOk C f = true) (f : FuncId) (hf : C.inl f = true) : Enters C.P f := by
    have hok := hI f hf
    unfold fnOk at hok
    cases hfn : C.P.funcs[f]? with
    | none => rw [hfn] at hok; cases hok
    | some fn =>
      rw [hfn] at hok
      simp only at hok
      cases hb : fn.body with
      | none => rw [hb] at hok; cases hok
      | some c =>
        rw [hb] at hok
        simp only [Bool.and_eq_true] at hok
        exact ⟨fn, hfn, by rw [hb]; rfl, by simpa using hok.2⟩
end
end Go.Lv
