import Derived.Test.YtonphdpgepnenaaDoorLvReg
namespace Go.Lv
set_option linter.all false
open Go Go.RowKit
variable {S : Nat → Type}

theorem opt_ret_pair {α β : Type} (d : D α) (m : β) : (d.bind fun v => .ret (v, m)).opt = d.opt.map fun v => (v, m) := by
  rw [D.opt_bind]; cases d.opt <;> rfl

theorem mark1_comm (m : Mem S) (a b : Nat) : mark1 (mark1 m a) b = mark1 (mark1 m b) a := by
  have get : ∀ (m : Mem S) (a j : Nat), (mark1 m a)[j]? = if j = a then (match m[j]? with | some (.arr e t l g _) => some (.arr e t l g true) | o => o) else m[j]? := by
    intro m a j
    unfold mark1
    by_cases h : j = a
    · subst h
      rw [if_pos rfl]
      cases hm : m[j]? with
      | none => simp only [hm]
      | some o =>
        cases o with
        | arr e t l g fz => simp only; rw [List.getElem?_set_self (List.getElem?_eq_some_iff.1 hm).1]
        | box cs fz => simp only [hm]
        | map kt vt l => simp only [hm]
    · rw [if_neg h]
      split
      · rw [List.getElem?_set_ne (fun q => h q.symm)]
      · rfl
  apply List.ext_getElem?
  intro j
  rw [get, get, get, get]
  by_cases h1 : j = a <;> by_cases h2 : j = b
  · subst h1; subst h2; rfl
  · simp only [h1, if_true]
    subst h1
    rw [if_neg h2, if_neg h2]
  · simp only [h2, if_true]
    subst h2
    rw [if_neg h1, if_neg h1]
  · simp only [h1, h2, if_false]
theorem mark_mark1 (m : Mem S) (a : Nat) : ∀ ids, mark (mark1 m a) ids = mark1 (mark m ids) a
  | [] => rfl
  | i :: ids => by simp only [mark]; rw [mark1_comm, mark_mark1 (mark1 m i) a ids]
theorem mark_comm (m : Mem S) : ∀ a b, mark (mark m a) b = mark (mark m b) a
  | [], b => rfl
  | i :: a, b => by simp only [mark]; rw [mark_comm (mark1 m i) a b, mark_mark1 m i b]

section
variable {C : Ctx S}

theorem pick_opt (b : Bool) (p q : V S) (m : Mem S) : (D.split b (.ret (p, m)) (.ret (q, m)) : D (V S × Mem S)).opt = (some (bif b then p else q)).map fun v => (v, m) := by cases b <;> rfl

theorem cls0 (cl : Cl S) (ev : Operand → V S) (o : Oper) (h : cls (C := C) o = 0) : ∃ F : Option (V S), ∀ m, (semOp C cl m ev o).opt = F.map fun v => (v, m) := by
  unfold cls at h
  cases hop : o.op <;> rw [hop] at h <;> simp only [reduceCtorEq, Nat.succ_ne_zero] at h
  case move x => exact ⟨some (ev x), fun m => by simp only [semOp, hop, D.opt]; rfl⟩
  case assign x => exact ⟨some (ev x), fun m => by simp only [semOp, hop, D.opt]; rfl⟩
  case pick c a b =>
    refine ⟨match ev c with | .cell .bool t => some (bif t then ev a else ev b) | _ => none, fun m => ?_⟩
    simp only [semOp, hop]
    cases hv : ev c with
    | cell t x => cases t <;> first | exact pick_opt x _ _ m | rfl
    | _ => rfl
  case build t ps => exact ⟨_, fun m => by simp only [semOp, hop]; rw [opt_ret_pair]⟩
  case nilCheck x =>
    refine ⟨match ev x with | .ptr id off => some (.ptr id off) | .eptr id g i off => some (.eptr id g i off) | .ro cs => some (.ro cs) | .clo f a b => some (.clo f a b) | _ => none, fun m => ?_⟩
    simp only [semOp, hop]
    cases hv : ev x <;> rfl
  case binOp op t x y u => exact ⟨_, fun m => by simp only [semOp, hop]; rw [opt_ret_pair]⟩
  case unOp op t x => exact ⟨_, fun m => by simp only [semOp, hop]; rw [opt_ret_pair]⟩
  case convert s d x =>
    refine ⟨match C.P.underlying d, ev x with | some (.int k), .cell (.int _) n => if (C.P.underlying s).isSome = true then some (wr k n) else none | _, _ => none, fun m => ?_⟩
    simp only [semOp, hop]
    cases hd : C.P.underlying d with
    | none => rfl
    | some ud =>
      cases ud <;> try rfl
      case string => rw [hd] at h; simp at h
      cases hv : ev x <;> try rfl
      rename_i t x
      cases t <;> try rfl
      simp only
      split <;> rfl
  case makeFunc fn first caps =>
    cases fn with
    | func f => exact ⟨some (.clo f (first.toList.map ev) (caps.toList.map ev)), fun m => by simp only [semOp, hop, D.opt]; rfl⟩
    | _ => exact ⟨none, fun m => by simp only [semOp, hop, D.opt]; rfl⟩
  case fieldAddr s x f =>
    refine ⟨((D.ofOpt (fieldAt? C s f)).bind fun p => semFA p.1 (ev x)).opt, fun m => ?_⟩
    simp only [semOp, hop]
    cases fieldAt? C s f with
    | none => rfl
    | some p => simp only [D.ofOpt, D.bind]; rw [opt_ret_pair]
  case field s x f =>
    refine ⟨((D.ofOpt (fieldAt? C s f)).bind fun p => semFld C p (ev x)).opt, fun m => ?_⟩
    simp only [semOp, hop]
    cases fieldAt? C s f with
    | none => rfl
    | some p => simp only [D.ofOpt, D.bind]; rw [opt_ret_pair]
  case index t x i => exact ⟨_, fun m => by simp only [semOp, hop]; rw [opt_ret_pair]⟩
  case lookup t x i ok =>
    cases ok with
    | true =>
      refine ⟨if mapInt C t = true ∧ nilElem C t = true then (match ev x, ev i with | .cmap es, .cell (.int .i64) n => (mapAtOk (.cell .err false) n es).opt | _, _ => none) else none, fun m => ?_⟩
      simp only [semOp, hop]
      split
      · cases hv : ev x <;> try rfl
        cases hw : ev i <;> try rfl
        rename_i es t n
        cases t <;> try rfl
        rename_i k
        cases k <;> first | rfl | (simp only; rw [opt_ret_pair])
      · rfl
    | false =>
      have hkb : mapKB C t = none := by
        cases q : mapKB C t with
        | none => rfl
        | some k => rw [q] at h; simp at h
      refine ⟨if mapInt C t = true then (match ev x, ev i with | .cmap es, .cell (.int .i64) n => (mapAt n es).opt | _, _ => none) else none, fun m => ?_⟩
      simp only [semOp, hop]
      have hnone : ∀ (id : Nat) (q : IntKind) (n : Int), ((semMapGet C m t (.mapr id) q n).bind fun v => (.ret (v, m) : D (V S × Mem S))).opt = none := by
        intro id q n
        rw [opt_ret_pair]
        unfold semMapGet
        simp only [hkb]
        split
        · simp [D.opt]
        · rfl
      split
      · cases hv : ev x <;> try rfl
        · cases hw : ev i <;> try rfl
          rename_i es t n
          cases t <;> try rfl
          rename_i k
          cases k <;> first | rfl | (simp only; rw [opt_ret_pair])
        · cases hw : ev i <;> try rfl
          rename_i id t n
          cases t <;> try rfl
          exact hnone _ _ _
      · rfl
  case extract t i =>
    refine ⟨match ev t with | .tup vs => vs[i]? | _ => none, fun m => ?_⟩
    simp only [semOp, hop]
    cases hv : ev t <;> try rfl
    rename_i vs
    simp only
    cases vs[i]? <;> rfl
  case call c =>
    cases hc : c.callee with
    | builtin b =>
      rw [hc] at h
      cases b <;> simp only [reduceCtorEq, Nat.succ_ne_zero] at h
      · exact ⟨_, fun m => by simp only [semOp, hop, hc]; rw [opt_ret_pair]⟩
      · exact ⟨_, fun m => by simp only [semOp, hop, hc]; rw [opt_ret_pair]⟩
    | value f =>
      rw [hc] at h
      cases f <;> simp only [reduceCtorEq, Nat.succ_ne_zero] at h
      split at h <;> simp at h
    | invoke r n => rw [hc] at h; simp at h
  case buildSlice t len ps => cases q : C.own <;> rw [q] at h <;> simp at h
  case slice t x lo hi mx => split at h <;> simp at h

theorem box_like {m m' : Mem S} (hl : Like m m') (i : Nat) : (∀ cs fz, m[i]? = some (.box cs fz) → m'[i]? = some (.box cs fz)) ∧ (∀ cs fz, m'[i]? = some (.box cs fz) → m[i]? = some (.box cs fz)) := by
  have := hl.2 i
  refine ⟨fun cs fz h => by rw [h] at this; exact this, fun cs fz h => ?_⟩
  cases hm : m[i]? with
  | none => rw [hm] at this; simp only [likeO] at this; rw [this] at h; cases h
  | some o =>
    rw [hm] at this
    cases o with
    | arr e t l g f => obtain ⟨q, q1, _⟩ := this; rw [q1] at h; cases h
    | box cs' f => simp only [likeO] at this; rw [this] at h; exact h
    | map a b c => simp only [likeO] at this; rw [this] at h; cases h

/-- What is read at an object does not hang on the marks. -/
theorem read_like {α : Type} {m m' : Mem S} (hl : Like m m') (i : Nat) (f : Ob S → α) (d : α) (hf : ∀ e t l g a b, f (.arr e t l g a) = f (.arr e t l g b)) :
    (match m'[i]? with | some o => f o | none => d) = (match m[i]? with | some o => f o | none => d) := by
  have := hl.2 i
  cases hm : m[i]? with
  | none => rw [hm] at this; simp only [likeO] at this; rw [this]
  | some o =>
    rw [hm] at this
    cases o with
    | arr e t l g fz => obtain ⟨q, q1, _⟩ := this; rw [q1]; exact hf _ _ _ _ _ _
    | box cs fz => simp only [likeO] at this; rw [this]
    | map a b c => simp only [likeO] at this; rw [this]

theorem decAll_like {E : Env S} {m m' : Mem S} (hl : Like m m') : ∀ (ts : List Ty) (xs : List (V S)), decAll E m' ts xs = decAll E m ts xs
  | [], [] => rfl
  | [], _ :: _ => rfl
  | _ :: _, [] => rfl
  | t :: ts, x :: xs => by simp only [decAll, dec_like hl t x, decAll_like hl ts xs]

/-- At one object, marks apart. -/
theorem like_cases {m m' : Mem S} (hl : Like m m') (i : Nat) : (m[i]? = none ∧ m'[i]? = none) ∨ (∃ e t l g a b, m[i]? = some (.arr e t l g a) ∧ m'[i]? = some (.arr e t l g b)) ∨ (∃ cs fz, m[i]? = some (.box cs fz) ∧ m'[i]? = some (.box cs fz)) ∨ (∃ a b c, m[i]? = some (.map a b c) ∧ m'[i]? = some (.map a b c)) := by
  have := hl.2 i
  cases hm : m[i]? with
  | none => rw [hm] at this; exact .inl ⟨rfl, this⟩
  | some o =>
    rw [hm] at this
    cases o with
    | arr e t l g fz => obtain ⟨q, q1, _⟩ := this; exact .inr (.inl ⟨e, t, l, g, fz, q, rfl, q1⟩)
    | box cs fz => exact .inr (.inr (.inl ⟨cs, fz, rfl, this⟩))
    | map a b c => exact .inr (.inr (.inr ⟨a, b, c, rfl, this⟩))

def valOf {β : Type} (d : D (V S × β)) : Option (V S) := d.opt.map (·.1)
theorem val_ret (o : Option (V S)) (m : Mem S) : ((D.ofOpt o).bind fun v => (.ret (v, m) : D (V S × Mem S))).opt = (valOf ((D.ofOpt o).bind fun v => (.ret (v, m) : D (V S × Mem S)))).map fun v => (v, m) := by cases o <;> rfl
theorem val_ret' (o : Option (V S)) (m m' : Mem S) : valOf ((D.ofOpt o).bind fun v => (.ret (v, m) : D (V S × Mem S))) = valOf ((D.ofOpt o).bind fun v => (.ret (v, m') : D (V S × Mem S))) := by cases o <;> rfl
theorem val_pair (d : D (V S)) (m m' : Mem S) : valOf (d.bind fun v => (.ret (v, m) : D (V S × Mem S))) = valOf (d.bind fun v => (.ret (v, m') : D (V S × Mem S))) := by
  unfold valOf; rw [opt_ret_pair, opt_ret_pair]; cases d.opt <;> rfl
theorem val_pair' (d : D (V S)) (m : Mem S) : (d.bind fun v => (.ret (v, m) : D (V S × Mem S))).opt = (valOf (d.bind fun v => (.ret (v, m) : D (V S × Mem S)))).map fun v => (v, m) := by
  unfold valOf; rw [opt_ret_pair]; cases d.opt <;> rfl

theorem val_call {α : Type} (o : Option α) (f : α → V S) (m : Mem S) : (D.call o fun x => (.ret (f x, m) : D (V S × Mem S))).opt = (valOf (D.call o fun x => (.ret (f x, m) : D (V S × Mem S)))).map fun v => (v, m) := by cases o <;> rfl
theorem val_call' {α : Type} (o : Option α) (f : α → V S) (m m' : Mem S) : valOf (D.call o fun x => (.ret (f x, m) : D (V S × Mem S))) = valOf (D.call o fun x => (.ret (f x, m') : D (V S × Mem S))) := by cases o <;> rfl

theorem val_split (b : Bool) (x : V S) (m : Mem S) : (D.split b (.ret (x, m)) .fail : D (V S × Mem S)).opt = (valOf (D.split b (.ret (x, m)) .fail : D (V S × Mem S))).map fun v => (v, m) := by cases b <;> rfl
theorem val_split' (b : Bool) (x : V S) (m m' : Mem S) : valOf (D.split b (.ret (x, m)) .fail : D (V S × Mem S)) = valOf (D.split b (.ret (x, m')) .fail : D (V S × Mem S)) := by cases b <;> rfl

theorem load_same (m : Mem S) (t : TypeId) (x : V S) : (semLoad C m t x).opt = (valOf (semLoad C m t x)).map fun v => (v, m) := by
  cases x with
  | ptr id off => simp only [semLoad]; split <;> first | exact val_ret _ _ | rfl
  | ro cs => exact val_ret _ _
  | eptr id g i off =>
    simp only [semLoad]
    split
    · rename_i e T l g' fz _
      split
      · unfold valOf
        simp only [D.opt]
        cases l[i]? with
        | none => rfl
        | some xx => exact val_ret _ _
      · rfl
    · rfl
  | _ => rfl
theorem load_like {m m' : Mem S} (hl : Like m m') (t : TypeId) (x : V S) : valOf (semLoad C m' t x) = valOf (semLoad C m t x) := by
  cases x with
  | ptr id off =>
    simp only [semLoad]
    rcases like_cases hl id with ⟨h1, h2⟩ | ⟨e, t', l, g, a, b, h1, h2⟩ | ⟨cs, fz, h1, h2⟩ | ⟨a, b, c, h1, h2⟩ <;> rw [h1, h2]
    exact val_ret' _ _ _
  | ro cs => exact val_ret' _ _ _
  | eptr id g i off =>
    simp only [semLoad]
    rcases like_cases hl id with ⟨h1, h2⟩ | ⟨e, t', l, g', a, b, h1, h2⟩ | ⟨cs, fz, h1, h2⟩ | ⟨a, b, c, h1, h2⟩ <;> rw [h1, h2]
    simp only
    split
    · unfold valOf
      simp only [D.opt]
      cases l[i]? with
      | none => rfl
      | some xx => exact val_ret' _ _ _
    · rfl
  | _ => rfl

theorem elemAt_same (m : Mem S) (T : Ty) (x : V S) (n : Int) : (elemAt C m T x n).opt = (valOf (elemAt C m T x n)).map fun v => (v, m) := by
  cases x with
  | cell t l =>
    cases t <;> try rfl
    simp only [elemAt]
    split
    · exact val_call _ _ _
    · rfl
  | full t l =>
    simp only [elemAt]
    split
    · exact val_call _ _ _
    · rfl
  | own id g =>
    simp only [elemAt]
    split
    · split
      · split
        · exact val_split _ _ _
        · rfl
      · rfl
    · rfl
  | _ => rfl
theorem elemAt_like {m m' : Mem S} (hl : Like m m') (T : Ty) (x : V S) (n : Int) : valOf (elemAt C m' T x n) = valOf (elemAt C m T x n) := by
  cases x with
  | cell t l =>
    cases t <;> try rfl
    simp only [elemAt]
    split
    · exact val_call' _ _ _ _
    · rfl
  | full t l =>
    simp only [elemAt]
    split
    · exact val_call' _ _ _ _
    · rfl
  | own id g =>
    simp only [elemAt]
    rcases like_cases hl id with ⟨h1, h2⟩ | ⟨e, t', l, g', a, b, h1, h2⟩ | ⟨cs, fz, h1, h2⟩ | ⟨a, b, c, h1, h2⟩ <;> rw [h1, h2]
    simp only
    split
    · split
      · exact val_split' _ _ _ _
      · rfl
    · rfl
  | _ => rfl

theorem IA_same (m : Mem S) (t : TypeId) (x i : V S) : (semIA C m t x i).opt = (valOf (semIA C m t x i)).map fun v => (v, m) := by
  unfold semIA
  split
  · rename_i e n _
    cases C.ty e with
    | none => rfl
    | some T => exact elemAt_same m T x n
  · rename_i len e n _
    cases sizeOf? C e with
    | none => rfl
    | some sz =>
      simp only [D.ofOpt, D.bind]
      cases x <;> first | exact val_pair' _ _ | rfl
  · rfl
theorem IA_like {m m' : Mem S} (hl : Like m m') (t : TypeId) (x i : V S) : valOf (semIA C m' t x i) = valOf (semIA C m t x i) := by
  unfold semIA
  split
  · rename_i e n _
    cases C.ty e with
    | none => rfl
    | some T => exact elemAt_like hl T x n
  · rename_i len e n _
    cases sizeOf? C e with
    | none => rfl
    | some sz =>
      simp only [D.ofOpt, D.bind]
      cases x <;> first | exact val_pair _ _ _ | rfl
  · rfl

theorem len_like {m m' : Mem S} (hl : Like m m') (x : V S) : semLen m' x = semLen m x := by
  cases x with
  | own id g =>
    simp only [semLen]
    rcases like_cases hl id with ⟨h1, h2⟩ | ⟨e, t', l, g', a, b, h1, h2⟩ | ⟨cs, fz, h1, h2⟩ | ⟨a, b, c, h1, h2⟩ <;> rw [h1, h2]
  | cell t l => cases t <;> rfl
  | _ => rfl

def slMarks : V S → List Nat
  | .own id _ => [id]
  | _ => []
theorem Sl_same (m : Mem S) (T : Ty) (x : V S) (lo hi mx : Option (V S)) : (semSl m T x lo hi mx).opt = (valOf (semSl m T x lo hi mx)).map fun v => (v, mark m (slMarks x)) := by
  cases x with
  | cell t l =>
    cases t <;> try rfl
    simp only [semSl, slMarks, mark]
    split
    · exact val_pair' _ _
    · rfl
  | full t l =>
    simp only [semSl, slMarks, mark]
    split
    · exact val_pair' _ _
    · rfl
  | own id g =>
    simp only [semSl, slMarks]
    split
    · split
      · exact val_pair' _ _
      · rfl
    · rfl
  | _ => rfl
theorem Sl_like {m m' : Mem S} (hl : Like m m') (T : Ty) (x : V S) (lo hi mx : Option (V S)) : valOf (semSl m' T x lo hi mx) = valOf (semSl m T x lo hi mx) := by
  cases x with
  | cell t l =>
    cases t <;> try rfl
    simp only [semSl]
    split
    · exact val_pair _ _ _
    · rfl
  | full t l =>
    simp only [semSl]
    split
    · exact val_pair _ _ _
    · rfl
  | own id g =>
    simp only [semSl]
    rcases like_cases hl id with ⟨h1, h2⟩ | ⟨e, t', l, g', a, b, h1, h2⟩ | ⟨cs, fz, h1, h2⟩ | ⟨a, b, c, h1, h2⟩ <;> rw [h1, h2]
    simp only
    split
    · exact val_pair _ _ _
    · rfl
  | _ => rfl

def bsMarks (C : Ctx S) (t : TypeId) (ps : List (Nat × V S)) : List Nat := match inOrder 0 ps with
  | some vs => vs.flatMap V.owns
  | none => []
theorem BS_same (ho : C.own = false) (m : Mem S) (t : TypeId) (len : Nat) (ps : List (Nat × V S)) : (semBS C m t len ps).opt = (valOf (semBS C m t len ps)).map fun v => (v, mark m (bsMarks C t ps)) := by
  unfold semBS bsMarks
  split
  · rename_i e _
    cases C.ty e with
    | none => rfl
    | some T =>
      cases inOrder 0 ps with
      | none => rfl
      | some vs =>
        simp only [D.ofOpt, D.bind]
        cases allM (vs.map (dec C.E m T)) with
        | none => rfl
        | some l => simp only [D.bind, ho, cond_false]; split <;> rfl
  · rfl
theorem BS_like (ho : C.own = false) {m m' : Mem S} (hl : Like m m') (t : TypeId) (len : Nat) (ps : List (Nat × V S)) : valOf (semBS C m' t len ps) = valOf (semBS C m t len ps) := by
  unfold semBS
  split
  · rename_i e _
    cases C.ty e with
    | none => rfl
    | some T =>
      cases inOrder 0 ps with
      | none => rfl
      | some vs =>
        simp only [D.ofOpt, D.bind]
        rw [show dec C.E m' T = dec C.E m T from funext fun z => dec_like hl T z]
        cases allM (vs.map (dec C.E m T)) with
        | none => rfl
        | some l => simp only [D.bind]; simp only [D.bind, ho, cond_false]; split <;> rfl
  · rfl

theorem call_same (cl : Cl S) (m : Mem S) {f : FuncId} {sp : Spec S} (h : C.spec f = some sp) (args : List (V S)) : (callFn C cl m f args).opt = (valOf (callFn C cl m f args)).map fun v => (v, mark m (args.flatMap V.owns)) := by
  unfold callFn
  rw [h]
  simp only
  cases decAll C.E m sp.args args with
  | none => rfl
  | some cs => simp only [D.ofOpt, D.bind]; unfold valOf; simp only [D.opt]; cases sp.run cs <;> rfl
theorem call_like (cl : Cl S) {m m' : Mem S} (hl : Like m m') {f : FuncId} {sp : Spec S} (h : C.spec f = some sp) (args : List (V S)) : valOf (callFn C cl m' f args) = valOf (callFn C cl m f args) := by
  unfold callFn
  rw [h]
  simp only
  rw [decAll_like hl]
  cases decAll C.E m sp.args args with
  | none => rfl
  | some cs => simp only [D.ofOpt, D.bind]; unfold valOf; simp only [D.opt]; cases sp.run cs <;> rfl

/-- All that is there is there. -/
def Sub (m m' : Mem S) : Prop := ∀ (i : Nat) (o : Ob S), m[i]? = some o → m'[i]? = some o
theorem val_fail {β : Type} {v : V S} (h : valOf (D.fail : D (V S × β)) = some v) : False := by cases h
theorem decLeaf_sub {m m' : Mem S} (hs : Sub m m') (t : Ty) (v : V S) (y : den S t) (h : decLeaf m t v = some y) : decLeaf m' t v = some y := by
  cases v with
  | own id g =>
    simp only [decLeaf] at h ⊢
    cases hm : m[id]? with
    | none => rw [hm] at h; cases h
    | some o => rw [hm] at h; rw [hs id o hm]; exact h
  | clo f a b =>
    cases a with
    | cons _ _ => simp [decLeaf] at h
    | nil =>
      cases b with
      | cons _ _ => simp [decLeaf] at h
      | nil => exact h
  | _ => exact h
theorem dec_sub {E : Env S} (hE : EnvOK E) {m m' : Mem S} (hs : Sub m m') (t : Ty) (v : V S) (y : den S t) (h : dec E m t v = some y) : dec E m' t v = some y := by
  cases t with
  | st i =>
    cases v <;> try exact h
    exact hE.mono i _ _ _ _ (fun t v y => decLeaf_sub hs t v y) h
  | _ => exact decLeaf_sub hs _ v y h
theorem decAll_sub {E : Env S} (hE : EnvOK E) {m m' : Mem S} (hs : Sub m m') : ∀ (ts : List Ty) (vs : List (V S)) (cs : List (Cell S)), decAll E m ts vs = some cs → decAll E m' ts vs = some cs
  | [], [], cs, h => h
  | [], _ :: _, cs, h => by cases h
  | _ :: _, [], cs, h => by cases h
  | t :: ts, v :: vs, cs, h => by
    simp only [decAll] at h ⊢
    cases h1 : dec E m t v with
    | none => rw [h1] at h; cases h
    | some x =>
      rw [h1] at h
      rw [dec_sub hE hs t v x h1]
      simp only [Option.bind_some] at h ⊢
      cases h2 : decAll E m ts vs with
      | none => rw [h2] at h; cases h
      | some r => rw [h2] at h; rw [decAll_sub hE hs ts vs r h2]; exact h
theorem load_sub {m m' : Mem S} (hs : Sub m m') (t : TypeId) (x : V S) (v : V S) (h : valOf (semLoad C m t x) = some v) : valOf (semLoad C m' t x) = some v := by
  cases x <;> try exact h
  · rename_i id off
    simp only [semLoad] at h ⊢
    cases hm : m[id]? with
    | none => rw [hm] at h; exact absurd h val_fail
    | some o =>
      rw [hm] at h; rw [hs id o hm]
      cases o <;> first | exact absurd h val_fail | skip
      simp only at h ⊢
      rename_i cs fz
      cases hd : take? C t cs off with
      | none => rw [hd] at h; exact absurd h val_fail
      | some y => rw [hd] at h; exact h
  · rename_i id g i off
    simp only [semLoad] at h ⊢
    cases hm : m[id]? with
    | none => rw [hm] at h; exact absurd h val_fail
    | some o =>
      rw [hm] at h; rw [hs id o hm]
      cases o <;> first | exact absurd h val_fail | skip
      simp only at h ⊢
      rename_i e T l g' fz
      split at h
      · rename_i hg
        rw [if_pos hg]
        cases hl : l[i]? with
        | none => rw [hl] at h; exact absurd h (by intro q; cases q)
        | some y =>
          rw [hl] at h
          cases hd : take? C t (elemCells C.E T y) off with
          | none => simp only [valOf, D.opt, Option.bind_some, hd, D.ofOpt, D.bind] at h; cases h
          | some z => simp only [valOf, D.opt, Option.bind_some, hd, D.ofOpt, D.bind] at h ⊢; exact h
      · exact absurd h val_fail
  · simp only [semLoad] at h ⊢
    rename_i cs
    cases hd : take? C t cs 0 with
    | none => rw [hd] at h; exact absurd h val_fail
    | some z => rw [hd] at h; exact h
theorem call_sub (hE : EnvOK C.E) (cl : Cl S) {m m' : Mem S} (hs : Sub m m') {f : FuncId} {sp : Spec S} (h : C.spec f = some sp) (args : List (V S)) (v : V S) (hv : valOf (callFn C cl m f args) = some v) : valOf (callFn C cl m' f args) = some v := by
  simp only [callFn, h] at hv ⊢
  cases hd : decAll C.E m sp.args args with
  | none => rw [hd] at hv; exact absurd hv val_fail
  | some cs =>
    rw [hd] at hv
    rw [decAll_sub hE hs _ _ cs hd]
    simp only [D.ofOpt, D.bind, valOf, D.opt] at hv ⊢
    cases hr : sp.run cs with
    | none => rw [hr] at hv; cases hv
    | some r => rw [hr] at hv; exact hv
theorem elemAt_sub {m m' : Mem S} (hs : Sub m m') (T : Ty) (x : V S) (n : Int) (v : V S) (h : valOf (elemAt C m T x n) = some v) : valOf (elemAt C m' T x n) = some v := by
  cases x with
  | cell t l =>
    cases t <;> try exact h
    rename_i t
    simp only [elemAt] at h ⊢
    split at h
    · rename_i e; subst e
      rw [if_pos rfl]
      cases hg : geti (α := den S t) l n with
      | none => rw [hg] at h; cases h
      | some z => rw [hg] at h; exact h
    · exact absurd h val_fail
  | full t l =>
    simp only [elemAt] at h ⊢
    split at h
    · rename_i e; subst e
      rw [if_pos rfl]
      cases hg : geti l n with
      | none => rw [hg] at h; cases h
      | some z => rw [hg] at h; exact h
    · exact absurd h val_fail
  | own id g =>
    simp only [elemAt] at h ⊢
    cases hm : m[id]? with
    | none => rw [hm] at h; exact absurd h val_fail
    | some o =>
      rw [hm] at h; rw [hs id o hm]
      cases o <;> first | exact absurd h val_fail | skip
      simp only at h ⊢
      rename_i e T' l g' fz
      split at h
      · rename_i h1
        rw [if_pos h1]
        split at h
        · rename_i h2
          rw [if_pos h2]
          cases hd : decide (0 ≤ n ∧ n < (l.length : Int)) with
          | false => simp only [valOf, D.opt, hd, cond_false] at h; cases h
          | true => simp only [valOf, D.opt, hd, cond_true] at h ⊢; exact h
        · exact absurd h val_fail
      · exact absurd h val_fail
  | _ => exact h
theorem IA_sub {m m' : Mem S} (hs : Sub m m') (t : TypeId) (x i : V S) (v : V S) (h : valOf (semIA C m t x i) = some v) : valOf (semIA C m' t x i) = some v := by
  unfold semIA at h ⊢
  split at h
  · rename_i e n _
    cases hT : C.ty e with
    | none => rw [hT] at h; exact absurd h val_fail
    | some T => rw [hT] at h; exact elemAt_sub hs T x n v h
  · rename_i len e n _
    cases hz : sizeOf? C e with
    | none => rw [hz] at h; exact absurd h val_fail
    | some sz =>
      rw [hz] at h
      simp only [D.ofOpt, D.bind] at h ⊢
      cases x <;> first | exact absurd h val_fail | exact (val_pair _ _ _).trans h
  · exact absurd h val_fail
/-- A load, or a call of what is told. -/
def isLC (C : Ctx S) (o : Oper) : Bool := match o.op with
  | .load .. => true
  | .indexAddr .. => true
  | .call c => (match c.callee with
    | .value (.func f) => (C.spec f).isSome
    | _ => false)
  | _ => false
theorem lc_op (hE : EnvOK C.E) (cl : Cl S) (ev : Operand → V S) (hev : ∀ f, ev (.func f) = .clo f [] []) (o : Oper) (h : isLC C o = true) : ∃ (F : Mem S → Option (V S)) (g : List Nat), (∀ m, (semOp C cl m ev o).opt = (F m).map fun v => (v, mark m g)) ∧ ∀ m m' v, Sub m m' → F m = some v → F m' = some v := by
  unfold isLC at h
  cases hop : o.op <;> rw [hop] at h <;> simp only [Bool.false_eq_true] at h
  case load t x => exact ⟨fun m => valOf (semLoad C m t (ev x)), [], fun m => by simp only [semOp, hop]; exact load_same m t _, fun m m' v hs => load_sub hs t _ v⟩
  case indexAddr t x i => exact ⟨fun m => valOf (semIA C m t (ev x) (ev i)), [], fun m => by simp only [semOp, hop]; exact IA_same m t _ _, fun m m' v hs => IA_sub hs t _ _ v⟩
  case call c =>
    cases hc : c.callee with
    | builtin b => rw [hc] at h; simp at h
    | invoke r n => rw [hc] at h; simp at h
    | value f =>
      rw [hc] at h
      cases f <;> simp only [Bool.false_eq_true] at h
      rename_i f
      obtain ⟨sp, hsp⟩ := Option.isSome_iff_exists.1 h
      refine ⟨fun m => valOf (callFn C cl m f ([] ++ c.args.toList.map ev ++ [])), ([] ++ c.args.toList.map ev ++ []).flatMap V.owns, fun m => ?_, fun m m' v hs => call_sub hE cl hs hsp _ v⟩
      simp only [semOp, hop, hc, hev]
      exact call_same cl m hsp _
/-- A new box. -/
def isAl (o : Oper) : Bool := match o.op with
  | .alloc _ => true
  | .box _ _ => true
  | _ => false
theorem al_op (cl : Cl S) (ev : Operand → V S) (o : Oper) (h : isAl o = true) : ∃ Z : Option (List (V S)), ∀ m, (semOp C cl m ev o).opt = Z.map fun cs => (.ptr m.length 0, m ++ [.box cs false]) := by
  unfold isAl at h
  cases hop : o.op <;> rw [hop] at h <;> simp only [Bool.false_eq_true] at h
  case alloc t =>
    cases hz : (C.P.info? t).bind (·.zero) with
    | none => exact ⟨none, fun m => by simp only [semOp, hop, hz]; rfl⟩
    | some z => exact ⟨some (ofConst (S := S) z).cells, fun m => by simp only [semOp, hop, hz]; rfl⟩
  case box t x =>
    by_cases hd : (ev x).defd
    · exact ⟨some (ev x).cells, fun m => by simp only [semOp, hop, hd]; rfl⟩
    · exact ⟨none, fun m => by simp only [semOp, hop, hd]; rfl⟩
theorem sub_app (m : Mem S) (l : Mem S) : Sub m (m ++ l) := fun i o h => by
  rw [List.getElem?_append_left (List.getElem?_eq_some_iff.1 h).1]; exact h
theorem mark1_len (m : Mem S) (i : Nat) : (mark1 m i).length = m.length := by
  unfold mark1; split <;> simp
theorem mark1_app (m : Mem S) (cs : List (V S)) (fz : Bool) (i : Nat) : mark1 (m ++ [.box cs fz]) i = mark1 m i ++ [.box cs fz] := by
  unfold mark1
  by_cases h : i < m.length
  · rw [List.getElem?_append_left h]
    cases hm : m[i]? with
    | none => rfl
    | some o => cases o <;> simp [List.set_append, h]
  · rw [List.getElem?_append_right (by omega)]
    rw [show m[i]? = none from List.getElem?_eq_none (by omega)]
    cases hk : i - m.length with
    | zero => rfl
    | succ k => rfl
theorem mark_app (m : Mem S) (cs : List (V S)) (fz : Bool) : ∀ (g : List Nat), mark (m ++ [.box cs fz]) g = mark m g ++ [.box cs fz] := by
  intro g
  induction g generalizing m with
  | nil => rfl
  | cons i g ih => simp only [mark]; rw [mark1_app, ih]

theorem Bytes_same (m : Mem S) (src : TypeId) (x : V S) : (semBytes C m src x).opt = (valOf (semBytes C m src x)).map fun v => (v, mark m x.owns) := by
  unfold semBytes
  split
  · split
    · cases listOf m (.int .u8) x <;> rfl
    · rfl
  · rfl
theorem Bytes_like {m m' : Mem S} (hl : Like m m') (src : TypeId) (x : V S) : valOf (semBytes C m' src x) = valOf (semBytes C m src x) := by
  unfold semBytes
  split
  · split
    · unfold listOf
      rw [decLeaf_like hl]
      cases decLeaf m (.slice (.int .u8)) x <;> rfl
    · rfl
  · rfl
theorem cls1 (cl : Cl S) (ev : Operand → V S) (hev : ∀ f, ev (.func f) = .clo f [] []) (o : Oper) (h : cls (C := C) o = 1) : ∃ (F : Mem S → Option (V S)) (g : List Nat), (∀ m, (semOp C cl m ev o).opt = (F m).map fun v => (v, mark m g)) ∧ ∀ m m', Like m m' → F m' = F m := by
  unfold cls at h
  cases hop : o.op <;> rw [hop] at h <;> simp only [reduceCtorEq, Nat.zero_ne_one, Nat.succ_ne_self, Nat.reduceEqDiff] at h
  case lookup t x i ok =>
    cases ok with
    | true => simp at h
    | false => simp only [cond_false] at h; split at h <;> simp at h
  case buildSlice t len ps =>
    have ho : C.own = false := by cases q : C.own <;> rw [q] at h <;> simp at h ⊢
    exact ⟨fun m => valOf (semBS C m t len (ps.toList.map fun p => (p.1, ev p.2))), bsMarks C t (ps.toList.map fun p => (p.1, ev p.2)), fun m => by simp only [semOp, hop]; exact BS_same ho m t len _, fun m m' hl => BS_like ho hl t len _⟩
  case load t x => exact ⟨fun m => valOf (semLoad C m t (ev x)), [], fun m => by simp only [semOp, hop]; exact load_same m t _, fun m m' hl => load_like hl t _⟩
  case slice t x lo hi mx =>
    cases hu : C.P.underlying t with
    | none => exact ⟨fun _ => none, [], fun m => by simp only [semOp, hop, hu]; rfl, fun m m' _ => rfl⟩
    | some d =>
      cases d
      case slice e =>
        refine ⟨fun m => valOf ((D.ofOpt (C.ty e)).bind fun T => semSl m T (ev x) (lo.map ev) (hi.map ev) (mx.map ev)), slMarks (ev x), fun m => ?_, fun m m' hl => ?_⟩
        · simp only [semOp, hop, hu]
          cases C.ty e with
          | none => rfl
          | some T => exact Sl_same m T _ _ _ _
        · simp only
          cases C.ty e with
          | none => rfl
          | some T => exact Sl_like hl T _ _ _ _
      case string => exact ⟨fun m => valOf ((semStr (ev x) (lo.map ev) (hi.map ev) (mx.map ev)).bind fun v => (.ret (v, m) : D (V S × Mem S))), [], fun m => by simp only [semOp, hop, hu, mark]; exact val_pair' _ _, fun m m' hl => val_pair _ _ _⟩
      case array n e => rw [hu] at h; simp at h
      all_goals exact ⟨fun _ => none, [], fun m => by simp only [semOp, hop, hu]; rfl, fun m m' _ => rfl⟩
  case convert s d x =>
    cases hu : C.P.underlying d with
    | none => rw [hu] at h; simp at h
    | some u =>
      cases u <;> rw [hu] at h <;> simp only [Nat.zero_ne_one] at h
      exact ⟨fun m => valOf (semBytes C m s (ev x)), (ev x).owns, fun m => by simp only [semOp, hop, hu]; exact Bytes_same m s _, fun m m' hl => Bytes_like hl s _⟩
  case indexAddr t x i => exact ⟨fun m => valOf (semIA C m t (ev x) (ev i)), [], fun m => by simp only [semOp, hop]; exact IA_same m t _ _, fun m m' hl => IA_like hl t _ _⟩
  case call c =>
    cases hc : c.callee with
    | builtin b =>
      rw [hc] at h
      cases b <;> simp only [reduceCtorEq, Nat.zero_ne_one, Nat.succ_ne_self, Nat.reduceEqDiff] at h
      refine ⟨fun m => match c.args.toList, c.argTypes.toList with
        | [x], [t] => if lenOk C t (ev x) = true then (semLen m (ev x)).opt else none
        | _, _ => none, [], fun m => ?_, fun m m' hl => ?_⟩
      · simp only [semOp, hop, hc, mark]
        cases c.args.toList with
        | nil => rfl
        | cons x r =>
          cases r with
          | cons _ _ => rfl
          | nil =>
            cases c.argTypes.toList with
            | nil => rfl
            | cons t r =>
              cases r with
              | cons _ _ => rfl
              | nil =>
                simp only
                split
                · rw [opt_ret_pair]
                · rfl
      · simp only
        split
        · rename_i x t _ _
          rw [len_like hl]
        · rfl
    | value f =>
      rw [hc] at h
      cases f <;> simp only [reduceCtorEq, Nat.zero_ne_one, Nat.succ_ne_self, Nat.reduceEqDiff] at h
      rename_i f
      split at h
      · rename_i hsp
        obtain ⟨sp, hsp⟩ := Option.isSome_iff_exists.1 hsp
        refine ⟨fun m => valOf (callFn C cl m f ([] ++ c.args.toList.map ev ++ [])), ([] ++ c.args.toList.map ev ++ []).flatMap V.owns, fun m => ?_, fun m m' hl => call_like cl hl hsp _⟩
        simp only [semOp, hop, hc, hev]
        exact call_same cl m hsp _
      · simp at h
    | invoke r n => rw [hc] at h; simp at h
end
end Go.Lv
