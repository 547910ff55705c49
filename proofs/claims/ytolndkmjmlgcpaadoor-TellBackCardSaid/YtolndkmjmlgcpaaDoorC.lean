import Derived.Test.YtolndkmjmlgcpaaDoorB
import Derived.Scope
import Derived.Laws.Sem
namespace Go.Lv
set_option linter.all false
open Go Go.RowKit
variable {S : Nat → Type}
section
variable {C : Ctx S}
/-- An operation asks its operands alone. -/
theorem semOp_congr (cl : Cl S) (m : Mem S) {ev ev' : Operand → V S} (o : Oper) (h : ∀ x, x ∈ o.op.operands.toList → ev x = ev' x) : semOp C cl m ev o = semOp C cl m ev' o := by
  have mapE : ∀ (xs : List Operand), (∀ x ∈ xs, ev x = ev' x) → xs.map ev = xs.map ev' := fun xs hx => List.map_congr_left hx
  have mapP : ∀ (ps : List (Nat × Operand)), (∀ p ∈ ps, ev p.2 = ev' p.2) → ps.map (fun p => (p.1, ev p.2)) = ps.map (fun p => (p.1, ev' p.2)) := fun ps hx => List.map_congr_left fun p hp => by rw [hx p hp]
  have optE : ∀ (z : Option Operand), (∀ x, z = some x → ev x = ev' x) → z.map ev = z.map ev' := by
    intro z hz; cases z with
    | none => rfl
    | some z => simp [hz z rfl]
  unfold semOp
  cases hop : o.op with
  | move x => simp only [hop, Op.operands] at h ⊢; rw [h x (by simp)]
  | assign x => simp only [hop, Op.operands] at h ⊢; rw [h x (by simp)]
  | pick c a b => simp only [hop, Op.operands] at h ⊢; rw [h c (by simp), h a (by simp), h b (by simp)]
  | alloc t => rfl
  | box t x => simp only [hop, Op.operands] at h ⊢; rw [h x (by simp)]
  | build t ps => simp only [hop, Op.operands] at h ⊢; rw [mapP ps.toList (fun p hp => h p.2 (by simp; exact ⟨p.1, by simpa using hp⟩))]
  | buildSlice t n ps => simp only [hop, Op.operands] at h ⊢; rw [mapP ps.toList (fun p hp => h p.2 (by simp; exact ⟨p.1, by simpa using hp⟩))]
  | load t x => simp only [hop, Op.operands] at h ⊢; rw [h x (by simp)]
  | store t a x => simp only [hop, Op.operands] at h ⊢; rw [h a (by simp), h x (by simp)]
  | nilCheck x => simp only [hop, Op.operands] at h ⊢; rw [h x (by simp)]
  | binOp op t x y u => simp only [hop, Op.operands] at h ⊢; rw [h x (by simp), h y (by simp)]
  | unOp op t x => simp only [hop, Op.operands] at h ⊢; rw [h x (by simp)]
  | convert s d x => simp only [hop, Op.operands] at h ⊢; rw [h x (by simp)]
  | makeFunc fn first caps =>
    simp only [hop, Op.operands] at h ⊢
    cases fn with
    | func f => simp only; rw [mapE first.toList (fun x hx => h x (by simp at hx ⊢; exact .inl hx)), mapE caps.toList (fun x hx => h x (by simp at hx ⊢; exact .inr hx))]
    | _ => rfl
  | makeSlice t a b => simp only [hop, Op.operands] at h ⊢; rw [h a (by simp), h b (by simp)]
  | slice t x lo hi mx =>
    simp only [hop, Op.operands] at h ⊢
    rw [h x (by simp), optE lo (fun y hy => h y (by subst hy; simp)), optE hi (fun y hy => h y (by subst hy; simp)), optE mx (fun y hy => h y (by subst hy; simp))]
  | fieldAddr s x f => simp only [hop, Op.operands] at h ⊢; rw [h x (by simp)]
  | field s x f => simp only [hop, Op.operands] at h ⊢; rw [h x (by simp)]
  | indexAddr t x i => simp only [hop, Op.operands] at h ⊢; rw [h x (by simp), h i (by simp)]
  | index t x i => simp only [hop, Op.operands] at h ⊢; rw [h x (by simp), h i (by simp)]
  | lookup t x i ok =>
    simp only [hop, Op.operands] at h
    cases ok with
    | true => simp only; rw [h x (by simp), h i (by simp)]
    | false => simp only; rw [h x (by simp), h i (by simp)]
  | mapUpdate t x i v => simp only [hop, Op.operands] at h ⊢; rw [h x (by simp), h i (by simp), h v (by simp)]
  | extract t i => simp only [hop, Op.operands] at h ⊢; rw [h t (by simp)]
  | call c =>
    simp only [hop, Op.operands, Call.operands] at h ⊢
    have hargs : ∀ x ∈ c.args.toList, ev x = ev' x := fun x hx => h x (by simp at hx ⊢; exact .inr hx)
    cases hc : c.callee with
    | builtin b =>
      cases b with
      | len => simp only; split <;> first | rfl | (rename_i x t e1 e2; rw [hargs x (by rw [e1]; simp)])
      | append => simp only; split <;> first | rfl | (rename_i s x t t' e1 e2; rw [hargs s (by rw [e1]; simp), hargs x (by rw [e1]; simp)])
      | copy => simp only; split <;> first | rfl | (rename_i s x t t' e1 e2; rw [hargs s (by rw [e1]; simp), hargs x (by rw [e1]; simp)])
      | min => simp only; rw [mapE _ hargs]
      | max => simp only; rw [mapE _ hargs]
      | _ => rfl
    | value f => simp only; rw [h f (by rw [hc]; simp), mapE _ hargs]
    | invoke r n => simp only; rw [h r (by rw [hc]; simp), mapE _ hargs]
  | makeMap t r => cases r <;> rfl
  | _ => rfl
/-- What an operation may do: 0: nothing with memory; 1: it reads, it marks; 2: more. -/
def cls (o : Oper) : Nat :=
  match o.op with
  | .move _ | .assign _ | .pick .. | .build .. | .nilCheck _ | .binOp .. | .unOp .. | .makeFunc .. | .fieldAddr .. | .field .. | .index .. | .extract .. => 0
  | .lookup t _ _ ok => bif ok then 0 else match mapKB C t with | some _ => 2 | none => 0
  | .load .. | .indexAddr .. => 1
  | .buildSlice .. => bif C.own then 2 else 1
  | .slice t .. => match C.P.underlying t with | some (.array _ _) => 2 | _ => 1
  | .convert _ t _ => match C.P.underlying t with | some .string => 1 | _ => 0
  | .call c => match c.callee with
    | .builtin .min | .builtin .max => 0
    | .builtin .len => 1
    | .value (.func f) => if (C.spec f).isSome then 1 else 2
    | _ => 2
  | _ => 2
/-- The same, where plain values alone are let. -/
def clsX (o : Oper) : Nat := bif C.fl then
  (match o.op with
  | .slice t .. => match C.P.underlying t with | some (.array _ _) => 2 | _ => 0
  | .indexAddr .. => 0
  | .buildSlice .. => bif C.own then 2 else 0
  | .load t _ => bif C.roLd t then 0 else 1
  | .call c => match c.callee with
    | .builtin .len => 0
    | _ => cls (C := C) o
  | _ => cls (C := C) o) else cls (C := C) o
theorem flOK_congr {ev ev' : Operand → V S} (o : Oper) (h : ∀ x, x ∈ o.op.operands.toList → ev x = ev' x) : flOK C ev o = flOK C ev' o := by
  unfold flOK
  cases hop : o.op with
  | slice t x lo hi mx => simp only [hop, Op.operands] at h ⊢; rw [h x (by simp)]
  | indexAddr t x i => simp only [hop, Op.operands] at h ⊢; rw [h x (by simp)]
  | load t x => simp only [hop, Op.operands] at h ⊢; rw [h x (by simp)]
  | buildSlice t n ps =>
    simp only [hop, Op.operands] at h ⊢
    have : ∀ p, p ∈ ps.toList → ev p.2 = ev' p.2 := fun p hp => h p.2 (by simp; exact ⟨p.1, by simpa using hp⟩)
    rw [Bool.eq_iff_iff, List.all_eq_true, List.all_eq_true]
    exact ⟨fun q p hp => by rw [← this p hp]; exact q p hp, fun q p hp => by rw [this p hp]; exact q p hp⟩
  | call c =>
    simp only [hop, Op.operands, Call.operands] at h ⊢
    have hargs : ∀ x ∈ c.args.toList, ev x = ev' x := fun x hx => h x (by simp at hx ⊢; exact .inr hx)
    cases hc : c.callee with
    | builtin b =>
      cases b with
      | len =>
        simp only
        rw [Bool.eq_iff_iff, List.all_eq_true, List.all_eq_true]
        exact ⟨fun q p hp => by rw [← hargs p hp]; exact q p hp, fun q p hp => by rw [hargs p hp]; exact q p hp⟩
      | _ => rfl
    | value f =>
      have : ev f = ev' f := h f (by rw [hc]; simp)
      simp only
      rw [this]
    | _ => rfl
  | _ => rfl
theorem semOpX_congr (cl : Cl S) (m : Mem S) {ev ev' : Operand → V S} (o : Oper) (h : ∀ x, x ∈ o.op.operands.toList → ev x = ev' x) : semOpX C cl m ev o = semOpX C cl m ev' o := by
  unfold semOpX
  rw [semOp_congr cl m o h, flOK_congr o h]
theorem semOpX_some {cl : Cl S} {m : Mem S} {ev : Operand → V S} {o : Oper} {p : V S × Mem S} (h : (semOpX C cl m ev o).opt = some p) : (semOp C cl m ev o).opt = some p := by
  unfold semOpX at h
  cases e : C.fl with
  | false => rw [e] at h; exact h
  | true =>
    rw [e] at h
    simp only [cond_true] at h
    cases e2 : flOK C ev o with
    | true => rw [e2] at h; exact h
    | false => rw [e2] at h; cases h
end
end Go.Lv
namespace Go.Lv
set_option linter.all false
open Go Go.RowKit
variable {S : Nat → Type}
theorem opt_ret_pair {α β : Type} (d : D α) (m : β) : (d.bind fun v => .ret (v, m)).opt = d.opt.map fun v => (v, m) := by
  rw [D.opt_bind]; cases d.opt <;> rfl
theorem mark1_comm (m : Mem S) (a b : Nat) : mark1 (mark1 m a) b = mark1 (mark1 m b) a := by
  have get : ∀ (m : Mem S) (a j : Nat), (mark1 m a)[j]? = if j = a then (match m[j]? with | some (.arr e t l g _) => some (.arr e t l g true) | o => o) else m[j]? := by
    intro m a j
    unfold mark1
    by_cases h : j = a
    · subst h
      rw [if_pos rfl]
      cases hm : m[j]? with
      | none => simp only [hm]
      | some o =>
        cases o with
        | arr e t l g fz => simp only; rw [List.getElem?_set_self (List.getElem?_eq_some_iff.1 hm).1]
        | box cs fz => simp only [hm]
        | map kt vt l => simp only [hm]
        | oth o => simp only [hm]
    · rw [if_neg h]
      split
      · rw [List.getElem?_set_ne (fun q => h q.symm)]
      · rfl
  apply List.ext_getElem?
  intro j
  rw [get, get, get, get]
  by_cases h1 : j = a <;> by_cases h2 : j = b
  · subst h1; subst h2; rfl
  · simp only [h1, if_true]
    subst h1
    rw [if_neg h2, if_neg h2]
  · simp only [h2, if_true]
    subst h2
    rw [if_neg h1, if_neg h1]
  · simp only [h1, h2, if_false]
theorem mark_mark1 (m : Mem S) (a : Nat) : ∀ ids, mark (mark1 m a) ids = mark1 (mark m ids) a
  | [] => rfl
  | i :: ids => by simp only [mark]; rw [mark1_comm, mark_mark1 (mark1 m i) a ids]
theorem mark_comm (m : Mem S) : ∀ a b, mark (mark m a) b = mark (mark m b) a
  | [], b => rfl
  | i :: a, b => by simp only [mark]; rw [mark_comm (mark1 m i) a b, mark_mark1 m i b]
section
variable {C : Ctx S}
theorem pick_opt (b : Bool) (p q : V S) (m : Mem S) : (D.split b (.ret (p, m)) (.ret (q, m)) : D (V S × Mem S)).opt = (some (bif b then p else q)).map fun v => (v, m) := by cases b <;> rfl
theorem cls0 (cl : Cl S) (ev : Operand → V S) (o : Oper) (h : cls (C := C) o = 0) : ∃ F : Option (V S), ∀ m, (semOp C cl m ev o).opt = F.map fun v => (v, m) := by
  unfold cls at h
  cases hop : o.op <;> rw [hop] at h <;> simp only [reduceCtorEq, Nat.succ_ne_zero] at h
  case move x => exact ⟨some (ev x), fun m => by simp only [semOp, hop, D.opt]; rfl⟩
  case assign x => exact ⟨some (ev x), fun m => by simp only [semOp, hop, D.opt]; rfl⟩
  case pick c a b =>
    refine ⟨match ev c with | .cell .bool t => some (bif t then ev a else ev b) | _ => none, fun m => ?_⟩
    simp only [semOp, hop]
    cases hv : ev c with
    | cell t x => cases t <;> first | exact pick_opt x _ _ m | rfl
    | _ => rfl
  case build t ps => exact ⟨_, fun m => by simp only [semOp, hop]; rw [opt_ret_pair]⟩
  case nilCheck x =>
    refine ⟨match ev x with | .ptr id off => some (.ptr id off) | .eptr id g i off => some (.eptr id g i off) | .ro cs => some (.ro cs) | .clo f a b => some (.clo f a b) | _ => none, fun m => ?_⟩
    simp only [semOp, hop]
    cases hv : ev x <;> rfl
  case binOp op t x y u => exact ⟨_, fun m => by simp only [semOp, hop]; rw [opt_ret_pair]⟩
  case unOp op t x => exact ⟨_, fun m => by simp only [semOp, hop]; rw [opt_ret_pair]⟩
  case convert s d x =>
    refine ⟨match C.P.underlying d, ev x with | some (.int k), .cell (.int _) n => if (C.P.underlying s).isSome = true then some (wr k n) else none | _, _ => none, fun m => ?_⟩
    simp only [semOp, hop]
    cases hd : C.P.underlying d with
    | none => rfl
    | some ud =>
      cases ud <;> try rfl
      case string => rw [hd] at h; simp at h
      cases hv : ev x <;> try rfl
      rename_i t x
      cases t <;> try rfl
      simp only
      split <;> rfl
  case makeFunc fn first caps =>
    cases fn with
    | func f => exact ⟨some (.clo f (first.toList.map ev) (caps.toList.map ev)), fun m => by simp only [semOp, hop, D.opt]; rfl⟩
    | _ => exact ⟨none, fun m => by simp only [semOp, hop, D.opt]; rfl⟩
  case fieldAddr s x f =>
    refine ⟨((D.ofOpt (fieldAt? C s f)).bind fun p => semFA p.1 (ev x)).opt, fun m => ?_⟩
    simp only [semOp, hop]
    cases fieldAt? C s f with
    | none => rfl
    | some p => simp only [D.ofOpt, D.bind]; rw [opt_ret_pair]
  case field s x f =>
    refine ⟨((D.ofOpt (fieldAt? C s f)).bind fun p => semFld C p (ev x)).opt, fun m => ?_⟩
    simp only [semOp, hop]
    cases fieldAt? C s f with
    | none => rfl
    | some p => simp only [D.ofOpt, D.bind]; rw [opt_ret_pair]
  case index t x i => exact ⟨_, fun m => by simp only [semOp, hop]; rw [opt_ret_pair]⟩
  case lookup t x i ok =>
    cases ok with
    | true =>
      refine ⟨if mapInt C t = true ∧ nilElem C t = true then (match ev x, ev i with | .cmap es, .cell (.int .i64) n => (mapAtOk (.cell .err false) n es).opt | _, _ => none) else none, fun m => ?_⟩
      simp only [semOp, hop]
      split
      · cases hv : ev x <;> try rfl
        cases hw : ev i <;> try rfl
        rename_i es t n
        cases t <;> try rfl
        rename_i k
        cases k <;> first | rfl | (simp only; rw [opt_ret_pair])
      · rfl
    | false =>
      have hkb : mapKB C t = none := by
        cases q : mapKB C t with
        | none => rfl
        | some k => rw [q] at h; simp at h
      refine ⟨if mapInt C t = true then (match ev x, ev i with | .cmap es, .cell (.int .i64) n => (mapAt n es).opt | _, _ => none) else none, fun m => ?_⟩
      simp only [semOp, hop]
      have hnone : ∀ (id : Nat) (q : IntKind) (n : Int), ((semMapGet C m t (.mapr id) q n).bind fun v => (.ret (v, m) : D (V S × Mem S))).opt = none := by
        intro id q n
        rw [opt_ret_pair]
        unfold semMapGet
        simp only [hkb]
        split
        · simp [D.opt]
        · rfl
      split
      · cases hv : ev x <;> try rfl
        · cases hw : ev i <;> try rfl
          rename_i es t n
          cases t <;> try rfl
          rename_i k
          cases k <;> first | rfl | (simp only; rw [opt_ret_pair])
        · cases hw : ev i <;> try rfl
          rename_i id t n
          cases t <;> try rfl
          exact hnone _ _ _
      · rfl
  case extract t i =>
    refine ⟨match ev t with | .tup vs => vs[i]? | _ => none, fun m => ?_⟩
    simp only [semOp, hop]
    cases hv : ev t <;> try rfl
    rename_i vs
    simp only
    cases vs[i]? <;> rfl
  case call c =>
    cases hc : c.callee with
    | builtin b =>
      rw [hc] at h
      cases b <;> simp only [reduceCtorEq, Nat.succ_ne_zero] at h
      · exact ⟨_, fun m => by simp only [semOp, hop, hc]; rw [opt_ret_pair]⟩
      · exact ⟨_, fun m => by simp only [semOp, hop, hc]; rw [opt_ret_pair]⟩
    | value f =>
      rw [hc] at h
      cases f <;> simp only [reduceCtorEq, Nat.succ_ne_zero] at h
      split at h <;> simp at h
    | invoke r n => rw [hc] at h; simp at h
  case buildSlice t len ps => cases q : C.own <;> rw [q] at h <;> simp at h
  case slice t x lo hi mx => split at h <;> simp at h
theorem decAll_like {E : Env S} {m m' : Mem S} (hl : Like m m') : ∀ (ts : List Ty) (xs : List (V S)), decAll E m' ts xs = decAll E m ts xs
  | [], [] => rfl
  | [], _ :: _ => rfl
  | _ :: _, [] => rfl
  | t :: ts, x :: xs => by simp only [decAll, dec_like hl t x, decAll_like hl ts xs]
/-- At one object, marks apart. -/
theorem like_cases {m m' : Mem S} (hl : Like m m') (i : Nat) : (m[i]? = none ∧ m'[i]? = none) ∨ (∃ e t l g a b, m[i]? = some (.arr e t l g a) ∧ m'[i]? = some (.arr e t l g b)) ∨ (∃ cs fz, m[i]? = some (.box cs fz) ∧ m'[i]? = some (.box cs fz)) ∨ (∃ a b c, m[i]? = some (.map a b c) ∧ m'[i]? = some (.map a b c)) ∨ (∃ o, m[i]? = some (.oth o) ∧ m'[i]? = some (.oth o)) := by
  have := hl.2 i
  cases hm : m[i]? with
  | none => rw [hm] at this; exact .inl ⟨rfl, this⟩
  | some o =>
    rw [hm] at this
    cases o with
    | arr e t l g fz => obtain ⟨q, q1, _⟩ := this; exact .inr (.inl ⟨e, t, l, g, fz, q, rfl, q1⟩)
    | box cs fz => exact .inr (.inr (.inl ⟨cs, fz, rfl, this⟩))
    | map a b c => exact .inr (.inr (.inr (.inl ⟨a, b, c, rfl, this⟩)))
    | oth o => exact .inr (.inr (.inr (.inr ⟨o, rfl, this⟩)))
def valOf {β : Type} (d : D (V S × β)) : Option (V S) := d.opt.map (·.1)
theorem val_ret (o : Option (V S)) (m : Mem S) : ((D.ofOpt o).bind fun v => (.ret (v, m) : D (V S × Mem S))).opt = (valOf ((D.ofOpt o).bind fun v => (.ret (v, m) : D (V S × Mem S)))).map fun v => (v, m) := by cases o <;> rfl
theorem val_ret' (o : Option (V S)) (m m' : Mem S) : valOf ((D.ofOpt o).bind fun v => (.ret (v, m) : D (V S × Mem S))) = valOf ((D.ofOpt o).bind fun v => (.ret (v, m') : D (V S × Mem S))) := by cases o <;> rfl
theorem val_pair (d : D (V S)) (m m' : Mem S) : valOf (d.bind fun v => (.ret (v, m) : D (V S × Mem S))) = valOf (d.bind fun v => (.ret (v, m') : D (V S × Mem S))) := by
  unfold valOf; rw [opt_ret_pair, opt_ret_pair]; cases d.opt <;> rfl
theorem val_pair' (d : D (V S)) (m : Mem S) : (d.bind fun v => (.ret (v, m) : D (V S × Mem S))).opt = (valOf (d.bind fun v => (.ret (v, m) : D (V S × Mem S)))).map fun v => (v, m) := by
  unfold valOf; rw [opt_ret_pair]; cases d.opt <;> rfl
theorem val_call {α : Type} (o : Option α) (f : α → V S) (m : Mem S) : (D.call o fun x => (.ret (f x, m) : D (V S × Mem S))).opt = (valOf (D.call o fun x => (.ret (f x, m) : D (V S × Mem S)))).map fun v => (v, m) := by cases o <;> rfl
theorem val_call' {α : Type} (o : Option α) (f : α → V S) (m m' : Mem S) : valOf (D.call o fun x => (.ret (f x, m) : D (V S × Mem S))) = valOf (D.call o fun x => (.ret (f x, m') : D (V S × Mem S))) := by cases o <;> rfl
theorem val_split (b : Bool) (x : V S) (m : Mem S) : (D.split b (.ret (x, m)) .fail : D (V S × Mem S)).opt = (valOf (D.split b (.ret (x, m)) .fail : D (V S × Mem S))).map fun v => (v, m) := by cases b <;> rfl
theorem val_split' (b : Bool) (x : V S) (m m' : Mem S) : valOf (D.split b (.ret (x, m)) .fail : D (V S × Mem S)) = valOf (D.split b (.ret (x, m')) .fail : D (V S × Mem S)) := by cases b <;> rfl
theorem load_same (m : Mem S) (t : TypeId) (x : V S) : (semLoad C m t x).opt = (valOf (semLoad C m t x)).map fun v => (v, m) := by
  cases x with
  | ptr id off => simp only [semLoad]; split <;> first | exact val_ret _ _ | rfl
  | ro cs => exact val_ret _ _
  | eptr id g i off =>
    simp only [semLoad]
    split
    · rename_i e T l g' fz _
      split
      · unfold valOf
        simp only [D.opt]
        cases l[i]? with
        | none => rfl
        | some xx => exact val_ret _ _
      · rfl
    · rfl
  | _ => rfl
theorem load_like {m m' : Mem S} (hl : Like m m') (t : TypeId) (x : V S) : valOf (semLoad C m' t x) = valOf (semLoad C m t x) := by
  cases x with
  | ptr id off =>
    simp only [semLoad]
    rcases like_cases hl id with ⟨h1, h2⟩ | ⟨e, t', l, g, a, b, h1, h2⟩ | ⟨cs, fz, h1, h2⟩ | ⟨a, b, c, h1, h2⟩ | ⟨o, h1, h2⟩ <;> rw [h1, h2]
    exact val_ret' _ _ _
  | ro cs => exact val_ret' _ _ _
  | eptr id g i off =>
    simp only [semLoad]
    rcases like_cases hl id with ⟨h1, h2⟩ | ⟨e, t', l, g', a, b, h1, h2⟩ | ⟨cs, fz, h1, h2⟩ | ⟨a, b, c, h1, h2⟩ | ⟨o, h1, h2⟩ <;> rw [h1, h2]
    simp only
    split
    · unfold valOf
      simp only [D.opt]
      cases l[i]? with
      | none => rfl
      | some xx => exact val_ret' _ _ _
    · rfl
  | _ => rfl
theorem elemAt_same (m : Mem S) (T : Ty) (x : V S) (n : Int) : (elemAt C m T x n).opt = (valOf (elemAt C m T x n)).map fun v => (v, m) := by
  cases x with
  | cell t l =>
    cases t <;> try rfl
    simp only [elemAt]
    split
    · exact val_call _ _ _
    · rfl
  | full t l =>
    simp only [elemAt]
    split
    · exact val_call _ _ _
    · rfl
  | own id g =>
    simp only [elemAt]
    split
    · split
      · split
        · exact val_split _ _ _
        · rfl
      · rfl
    · rfl
  | _ => rfl
theorem elemAt_like {m m' : Mem S} (hl : Like m m') (T : Ty) (x : V S) (n : Int) : valOf (elemAt C m' T x n) = valOf (elemAt C m T x n) := by
  cases x with
  | cell t l =>
    cases t <;> try rfl
    simp only [elemAt]
    split
    · exact val_call' _ _ _ _
    · rfl
  | full t l =>
    simp only [elemAt]
    split
    · exact val_call' _ _ _ _
    · rfl
  | own id g =>
    simp only [elemAt]
    rcases like_cases hl id with ⟨h1, h2⟩ | ⟨e, t', l, g', a, b, h1, h2⟩ | ⟨cs, fz, h1, h2⟩ | ⟨a, b, c, h1, h2⟩ | ⟨o, h1, h2⟩ <;> rw [h1, h2]
    simp only
    split
    · split
      · exact val_split' _ _ _ _
      · rfl
    · rfl
  | _ => rfl
theorem IA_same (m : Mem S) (t : TypeId) (x i : V S) : (semIA C m t x i).opt = (valOf (semIA C m t x i)).map fun v => (v, m) := by
  unfold semIA
  split
  · rename_i e n _
    cases C.ty e with
    | none => rfl
    | some T => exact elemAt_same m T x n
  · rename_i len e n _
    cases sizeOf? C e with
    | none => rfl
    | some sz =>
      simp only [D.ofOpt, D.bind]
      cases x <;> first | exact val_pair' _ _ | rfl
  · rfl
theorem IA_like {m m' : Mem S} (hl : Like m m') (t : TypeId) (x i : V S) : valOf (semIA C m' t x i) = valOf (semIA C m t x i) := by
  unfold semIA
  split
  · rename_i e n _
    cases C.ty e with
    | none => rfl
    | some T => exact elemAt_like hl T x n
  · rename_i len e n _
    cases sizeOf? C e with
    | none => rfl
    | some sz =>
      simp only [D.ofOpt, D.bind]
      cases x <;> first | exact val_pair _ _ _ | rfl
  · rfl
theorem len_like {m m' : Mem S} (hl : Like m m') (x : V S) : semLen m' x = semLen m x := by
  cases x with
  | own id g =>
    simp only [semLen]
    rcases like_cases hl id with ⟨h1, h2⟩ | ⟨e, t', l, g', a, b, h1, h2⟩ | ⟨cs, fz, h1, h2⟩ | ⟨a, b, c, h1, h2⟩ | ⟨o, h1, h2⟩ <;> rw [h1, h2]
  | cell t l => cases t <;> rfl
  | _ => rfl
def slMarks : V S → List Nat
  | .own id _ => [id]
  | _ => []
theorem Sl_same (m : Mem S) (T : Ty) (x : V S) (lo hi mx : Option (V S)) : (semSl m T x lo hi mx).opt = (valOf (semSl m T x lo hi mx)).map fun v => (v, mark m (slMarks x)) := by
  cases x with
  | cell t l =>
    cases t <;> try rfl
    simp only [semSl, slMarks, mark]
    split
    · exact val_pair' _ _
    · rfl
  | full t l =>
    simp only [semSl, slMarks, mark]
    split
    · exact val_pair' _ _
    · rfl
  | own id g =>
    simp only [semSl, slMarks]
    split
    · split
      · exact val_pair' _ _
      · rfl
    · rfl
  | _ => rfl
theorem Sl_like {m m' : Mem S} (hl : Like m m') (T : Ty) (x : V S) (lo hi mx : Option (V S)) : valOf (semSl m' T x lo hi mx) = valOf (semSl m T x lo hi mx) := by
  cases x with
  | cell t l =>
    cases t <;> try rfl
    simp only [semSl]
    split
    · exact val_pair _ _ _
    · rfl
  | full t l =>
    simp only [semSl]
    split
    · exact val_pair _ _ _
    · rfl
  | own id g =>
    simp only [semSl]
    rcases like_cases hl id with ⟨h1, h2⟩ | ⟨e, t', l, g', a, b, h1, h2⟩ | ⟨cs, fz, h1, h2⟩ | ⟨a, b, c, h1, h2⟩ | ⟨o, h1, h2⟩ <;> rw [h1, h2]
    simp only
    split
    · exact val_pair _ _ _
    · rfl
  | _ => rfl
def bsMarks (C : Ctx S) (t : TypeId) (ps : List (Nat × V S)) : List Nat := match inOrder 0 ps with
  | some vs => vs.flatMap V.owns
  | none => []
theorem BS_same (ho : C.own = false) (m : Mem S) (t : TypeId) (len : Nat) (ps : List (Nat × V S)) : (semBS C m t len ps).opt = (valOf (semBS C m t len ps)).map fun v => (v, mark m (bsMarks C t ps)) := by
  unfold semBS bsMarks
  split
  · rename_i e _
    cases C.ty e with
    | none => rfl
    | some T =>
      cases inOrder 0 ps with
      | none => rfl
      | some vs =>
        simp only [D.ofOpt, D.bind]
        cases allM (vs.map (dec C.E m T)) with
        | none => rfl
        | some l => simp only [D.bind, ho, cond_false]; split <;> rfl
  · rfl
theorem BS_like (ho : C.own = false) {m m' : Mem S} (hl : Like m m') (t : TypeId) (len : Nat) (ps : List (Nat × V S)) : valOf (semBS C m' t len ps) = valOf (semBS C m t len ps) := by
  unfold semBS
  split
  · rename_i e _
    cases C.ty e with
    | none => rfl
    | some T =>
      cases inOrder 0 ps with
      | none => rfl
      | some vs =>
        simp only [D.ofOpt, D.bind]
        rw [show dec C.E m' T = dec C.E m T from funext fun z => dec_like hl T z]
        cases allM (vs.map (dec C.E m T)) with
        | none => rfl
        | some l => simp only [D.bind]; simp only [D.bind, ho, cond_false]; split <;> rfl
  · rfl
theorem call_same (cl : Cl S) (m : Mem S) {f : FuncId} {sp : Spec S} (h : C.spec f = some sp) (args : List (V S)) : (callFn C cl m f args).opt = (valOf (callFn C cl m f args)).map fun v => (v, mark m (args.flatMap V.owns)) := by
  unfold callFn
  rw [h]
  simp only
  cases decAll C.E m sp.args args with
  | none => rfl
  | some cs => simp only [D.ofOpt, D.bind]; unfold valOf; simp only [D.opt]; cases sp.run cs <;> rfl
theorem call_like (cl : Cl S) {m m' : Mem S} (hl : Like m m') {f : FuncId} {sp : Spec S} (h : C.spec f = some sp) (args : List (V S)) : valOf (callFn C cl m' f args) = valOf (callFn C cl m f args) := by
  unfold callFn
  rw [h]
  simp only
  rw [decAll_like hl]
  cases decAll C.E m sp.args args with
  | none => rfl
  | some cs => simp only [D.ofOpt, D.bind]; unfold valOf; simp only [D.opt]; cases sp.run cs <;> rfl
/-- All that is there is there. -/
def Sub (m m' : Mem S) : Prop := ∀ (i : Nat) (o : Ob S), m[i]? = some o → m'[i]? = some o
theorem val_fail {β : Type} {v : V S} (h : valOf (D.fail : D (V S × β)) = some v) : False := by cases h
theorem decLeaf_sub {m m' : Mem S} (hs : Sub m m') (t : Ty) (v : V S) (y : den S t) (h : decLeaf m t v = some y) : decLeaf m' t v = some y := by
  cases v with
  | own id g =>
    simp only [decLeaf] at h ⊢
    cases hm : m[id]? with
    | none => rw [hm] at h; cases h
    | some o => rw [hm] at h; rw [hs id o hm]; exact h
  | clo f a b =>
    cases a with
    | cons _ _ => simp [decLeaf] at h
    | nil =>
      cases b with
      | cons _ _ => simp [decLeaf] at h
      | nil => exact h
  | _ => exact h
theorem dec_sub {E : Env S} (hE : EnvOK E) {m m' : Mem S} (hs : Sub m m') (t : Ty) (v : V S) (y : den S t) (h : dec E m t v = some y) : dec E m' t v = some y := by
  cases t with
  | st i =>
    cases v <;> try exact h
    exact hE.mono i _ _ _ _ (fun t v y => decLeaf_sub hs t v y) h
  | _ => exact decLeaf_sub hs _ v y h
theorem decAll_sub {E : Env S} (hE : EnvOK E) {m m' : Mem S} (hs : Sub m m') : ∀ (ts : List Ty) (vs : List (V S)) (cs : List (Cell S)), decAll E m ts vs = some cs → decAll E m' ts vs = some cs
  | [], [], cs, h => h
  | [], _ :: _, cs, h => by cases h
  | _ :: _, [], cs, h => by cases h
  | t :: ts, v :: vs, cs, h => by
    simp only [decAll] at h ⊢
    cases h1 : dec E m t v with
    | none => rw [h1] at h; cases h
    | some x =>
      rw [h1] at h
      rw [dec_sub hE hs t v x h1]
      simp only [Option.bind_some] at h ⊢
      cases h2 : decAll E m ts vs with
      | none => rw [h2] at h; cases h
      | some r => rw [h2] at h; rw [decAll_sub hE hs ts vs r h2]; exact h
theorem load_sub {m m' : Mem S} (hs : Sub m m') (t : TypeId) (x : V S) (v : V S) (h : valOf (semLoad C m t x) = some v) : valOf (semLoad C m' t x) = some v := by
  cases x <;> try exact h
  · rename_i id off
    simp only [semLoad] at h ⊢
    cases hm : m[id]? with
    | none => rw [hm] at h; exact absurd h val_fail
    | some o =>
      rw [hm] at h; rw [hs id o hm]
      cases o <;> first | exact absurd h val_fail | skip
      simp only at h ⊢
      rename_i cs fz
      cases hd : take? C t cs off with
      | none => rw [hd] at h; exact absurd h val_fail
      | some y => rw [hd] at h; exact h
  · rename_i id g i off
    simp only [semLoad] at h ⊢
    cases hm : m[id]? with
    | none => rw [hm] at h; exact absurd h val_fail
    | some o =>
      rw [hm] at h; rw [hs id o hm]
      cases o <;> first | exact absurd h val_fail | skip
      simp only at h ⊢
      rename_i e T l g' fz
      split at h
      · rename_i hg
        rw [if_pos hg]
        cases hl : l[i]? with
        | none => rw [hl] at h; exact absurd h (by intro q; cases q)
        | some y =>
          rw [hl] at h
          cases hd : take? C t (elemCells C.E T y) off with
          | none => simp only [valOf, D.opt, Option.bind_some, hd, D.ofOpt, D.bind] at h; cases h
          | some z => simp only [valOf, D.opt, Option.bind_some, hd, D.ofOpt, D.bind] at h ⊢; exact h
      · exact absurd h val_fail
  · simp only [semLoad] at h ⊢
    rename_i cs
    cases hd : take? C t cs 0 with
    | none => rw [hd] at h; exact absurd h val_fail
    | some z => rw [hd] at h; exact h
theorem call_sub (hE : EnvOK C.E) (cl : Cl S) {m m' : Mem S} (hs : Sub m m') {f : FuncId} {sp : Spec S} (h : C.spec f = some sp) (args : List (V S)) (v : V S) (hv : valOf (callFn C cl m f args) = some v) : valOf (callFn C cl m' f args) = some v := by
  simp only [callFn, h] at hv ⊢
  cases hd : decAll C.E m sp.args args with
  | none => rw [hd] at hv; exact absurd hv val_fail
  | some cs =>
    rw [hd] at hv
    rw [decAll_sub hE hs _ _ cs hd]
    simp only [D.ofOpt, D.bind, valOf, D.opt] at hv ⊢
    cases hr : sp.run cs with
    | none => rw [hr] at hv; cases hv
    | some r => rw [hr] at hv; exact hv
theorem elemAt_sub {m m' : Mem S} (hs : Sub m m') (T : Ty) (x : V S) (n : Int) (v : V S) (h : valOf (elemAt C m T x n) = some v) : valOf (elemAt C m' T x n) = some v := by
  cases x with
  | cell t l =>
    cases t <;> try exact h
    rename_i t
    simp only [elemAt] at h ⊢
    split at h
    · rename_i e; subst e
      rw [if_pos rfl]
      cases hg : geti (α := den S t) l n with
      | none => rw [hg] at h; cases h
      | some z => rw [hg] at h; exact h
    · exact absurd h val_fail
  | full t l =>
    simp only [elemAt] at h ⊢
    split at h
    · rename_i e; subst e
      rw [if_pos rfl]
      cases hg : geti l n with
      | none => rw [hg] at h; cases h
      | some z => rw [hg] at h; exact h
    · exact absurd h val_fail
  | own id g =>
    simp only [elemAt] at h ⊢
    cases hm : m[id]? with
    | none => rw [hm] at h; exact absurd h val_fail
    | some o =>
      rw [hm] at h; rw [hs id o hm]
      cases o <;> first | exact absurd h val_fail | skip
      simp only at h ⊢
      rename_i e T' l g' fz
      split at h
      · rename_i h1
        rw [if_pos h1]
        split at h
        · rename_i h2
          rw [if_pos h2]
          cases hd : decide (0 ≤ n ∧ n < (l.length : Int)) with
          | false => simp only [valOf, D.opt, hd, cond_false] at h; cases h
          | true => simp only [valOf, D.opt, hd, cond_true] at h ⊢; exact h
        · exact absurd h val_fail
      · exact absurd h val_fail
  | _ => exact h
theorem IA_sub {m m' : Mem S} (hs : Sub m m') (t : TypeId) (x i : V S) (v : V S) (h : valOf (semIA C m t x i) = some v) : valOf (semIA C m' t x i) = some v := by
  unfold semIA at h ⊢
  split at h
  · rename_i e n _
    cases hT : C.ty e with
    | none => rw [hT] at h; exact absurd h val_fail
    | some T => rw [hT] at h; exact elemAt_sub hs T x n v h
  · rename_i len e n _
    cases hz : sizeOf? C e with
    | none => rw [hz] at h; exact absurd h val_fail
    | some sz =>
      rw [hz] at h
      simp only [D.ofOpt, D.bind] at h ⊢
      cases x <;> first | exact absurd h val_fail | exact (val_pair _ _ _).trans h
  · exact absurd h val_fail
/-- A load, or a call of what is told. -/
def isLC (C : Ctx S) (o : Oper) : Bool := match o.op with
  | .load .. => true
  | .indexAddr .. => true
  | .call c => (match c.callee with
    | .value (.func f) => (C.spec f).isSome
    | _ => false)
  | _ => false
theorem lc_op (hE : EnvOK C.E) (cl : Cl S) (ev : Operand → V S) (hev : ∀ f, ev (.func f) = .clo f [] []) (o : Oper) (h : isLC C o = true) : ∃ (F : Mem S → Option (V S)) (g : List Nat), (∀ m, (semOp C cl m ev o).opt = (F m).map fun v => (v, mark m g)) ∧ ∀ m m' v, Sub m m' → F m = some v → F m' = some v := by
  unfold isLC at h
  cases hop : o.op <;> rw [hop] at h <;> simp only [Bool.false_eq_true] at h
  case load t x => exact ⟨fun m => valOf (semLoad C m t (ev x)), [], fun m => by simp only [semOp, hop]; exact load_same m t _, fun m m' v hs => load_sub hs t _ v⟩
  case indexAddr t x i => exact ⟨fun m => valOf (semIA C m t (ev x) (ev i)), [], fun m => by simp only [semOp, hop]; exact IA_same m t _ _, fun m m' v hs => IA_sub hs t _ _ v⟩
  case call c =>
    cases hc : c.callee with
    | builtin b => rw [hc] at h; simp at h
    | invoke r n => rw [hc] at h; simp at h
    | value f =>
      rw [hc] at h
      cases f <;> simp only [Bool.false_eq_true] at h
      rename_i f
      obtain ⟨sp, hsp⟩ := Option.isSome_iff_exists.1 h
      refine ⟨fun m => valOf (callFn C cl m f ([] ++ c.args.toList.map ev ++ [])), ([] ++ c.args.toList.map ev ++ []).flatMap V.owns, fun m => ?_, fun m m' v hs => call_sub hE cl hs hsp _ v⟩
      simp only [semOp, hop, hc, hev]
      exact call_same cl m hsp _
/-- A new box. -/
def isAl (o : Oper) : Bool := match o.op with
  | .alloc _ => true
  | .box _ _ => true
  | _ => false
theorem al_op (cl : Cl S) (ev : Operand → V S) (o : Oper) (h : isAl o = true) : ∃ Z : Option (List (V S)), ∀ m, (semOp C cl m ev o).opt = Z.map fun cs => (.ptr m.length 0, m ++ [.box cs false]) := by
  unfold isAl at h
  cases hop : o.op <;> rw [hop] at h <;> simp only [Bool.false_eq_true] at h
  case alloc t =>
    cases hz : (C.P.info? t).bind (·.zero) with
    | none => exact ⟨none, fun m => by simp only [semOp, hop, hz]; rfl⟩
    | some z => exact ⟨some (ofConst (S := S) z).cells, fun m => by simp only [semOp, hop, hz]; rfl⟩
  case box t x =>
    by_cases hd : (ev x).defd
    · exact ⟨some (ev x).cells, fun m => by simp only [semOp, hop, hd]; rfl⟩
    · exact ⟨none, fun m => by simp only [semOp, hop, hd]; rfl⟩
theorem sub_app (m : Mem S) (l : Mem S) : Sub m (m ++ l) := fun i o h => by
  rw [List.getElem?_append_left (List.getElem?_eq_some_iff.1 h).1]; exact h
theorem mark1_app (m : Mem S) (cs : List (V S)) (fz : Bool) (i : Nat) : mark1 (m ++ [.box cs fz]) i = mark1 m i ++ [.box cs fz] := by
  unfold mark1
  by_cases h : i < m.length
  · rw [List.getElem?_append_left h]
    cases hm : m[i]? with
    | none => rfl
    | some o => cases o <;> simp [List.set_append, h]
  · rw [List.getElem?_append_right (by omega)]
    rw [show m[i]? = none from List.getElem?_eq_none (by omega)]
    cases hk : i - m.length with
    | zero => rfl
    | succ k => rfl
theorem mark_app (m : Mem S) (cs : List (V S)) (fz : Bool) : ∀ (g : List Nat), mark (m ++ [.box cs fz]) g = mark m g ++ [.box cs fz] := by
  intro g
  induction g generalizing m with
  | nil => rfl
  | cons i g ih => simp only [mark]; rw [mark1_app, ih]
theorem Bytes_same (m : Mem S) (src : TypeId) (x : V S) : (semBytes C m src x).opt = (valOf (semBytes C m src x)).map fun v => (v, mark m x.owns) := by
  unfold semBytes
  split
  · split
    · cases listOf m (.int .u8) x <;> rfl
    · rfl
  · rfl
theorem Bytes_like {m m' : Mem S} (hl : Like m m') (src : TypeId) (x : V S) : valOf (semBytes C m' src x) = valOf (semBytes C m src x) := by
  unfold semBytes
  split
  · split
    · unfold listOf
      rw [decLeaf_like hl]
      cases decLeaf m (.slice (.int .u8)) x <;> rfl
    · rfl
  · rfl
theorem cls1 (cl : Cl S) (ev : Operand → V S) (hev : ∀ f, ev (.func f) = .clo f [] []) (o : Oper) (h : cls (C := C) o = 1) : ∃ (F : Mem S → Option (V S)) (g : List Nat), (∀ m, (semOp C cl m ev o).opt = (F m).map fun v => (v, mark m g)) ∧ ∀ m m', Like m m' → F m' = F m := by
  unfold cls at h
  cases hop : o.op <;> rw [hop] at h <;> simp only [reduceCtorEq, Nat.zero_ne_one, Nat.succ_ne_self, Nat.reduceEqDiff] at h
  case lookup t x i ok =>
    cases ok with
    | true => simp at h
    | false => simp only [cond_false] at h; split at h <;> simp at h
  case buildSlice t len ps =>
    have ho : C.own = false := by cases q : C.own <;> rw [q] at h <;> simp at h ⊢
    exact ⟨fun m => valOf (semBS C m t len (ps.toList.map fun p => (p.1, ev p.2))), bsMarks C t (ps.toList.map fun p => (p.1, ev p.2)), fun m => by simp only [semOp, hop]; exact BS_same ho m t len _, fun m m' hl => BS_like ho hl t len _⟩
  case load t x => exact ⟨fun m => valOf (semLoad C m t (ev x)), [], fun m => by simp only [semOp, hop]; exact load_same m t _, fun m m' hl => load_like hl t _⟩
  case slice t x lo hi mx =>
    cases hu : C.P.underlying t with
    | none => exact ⟨fun _ => none, [], fun m => by simp only [semOp, hop, hu]; rfl, fun m m' _ => rfl⟩
    | some d =>
      cases d
      case slice e =>
        refine ⟨fun m => valOf ((D.ofOpt (C.ty e)).bind fun T => semSl m T (ev x) (lo.map ev) (hi.map ev) (mx.map ev)), slMarks (ev x), fun m => ?_, fun m m' hl => ?_⟩
        · simp only [semOp, hop, hu]
          cases C.ty e with
          | none => rfl
          | some T => exact Sl_same m T _ _ _ _
        · simp only
          cases C.ty e with
          | none => rfl
          | some T => exact Sl_like hl T _ _ _ _
      case string => exact ⟨fun m => valOf ((semStr (ev x) (lo.map ev) (hi.map ev) (mx.map ev)).bind fun v => (.ret (v, m) : D (V S × Mem S))), [], fun m => by simp only [semOp, hop, hu, mark]; exact val_pair' _ _, fun m m' hl => val_pair _ _ _⟩
      case array n e => rw [hu] at h; simp at h
      all_goals exact ⟨fun _ => none, [], fun m => by simp only [semOp, hop, hu]; rfl, fun m m' _ => rfl⟩
  case convert s d x =>
    cases hu : C.P.underlying d with
    | none => rw [hu] at h; simp at h
    | some u =>
      cases u <;> rw [hu] at h <;> simp only [Nat.zero_ne_one] at h
      exact ⟨fun m => valOf (semBytes C m s (ev x)), (ev x).owns, fun m => by simp only [semOp, hop, hu]; exact Bytes_same m s _, fun m m' hl => Bytes_like hl s _⟩
  case indexAddr t x i => exact ⟨fun m => valOf (semIA C m t (ev x) (ev i)), [], fun m => by simp only [semOp, hop]; exact IA_same m t _ _, fun m m' hl => IA_like hl t _ _⟩
  case call c =>
    cases hc : c.callee with
    | builtin b =>
      rw [hc] at h
      cases b <;> simp only [reduceCtorEq, Nat.zero_ne_one, Nat.succ_ne_self, Nat.reduceEqDiff] at h
      refine ⟨fun m => match c.args.toList, c.argTypes.toList with
        | [x], [t] => if lenOk C t (ev x) = true then (semLen m (ev x)).opt else none
        | _, _ => none, [], fun m => ?_, fun m m' hl => ?_⟩
      · simp only [semOp, hop, hc, mark]
        cases c.args.toList with
        | nil => rfl
        | cons x r =>
          cases r with
          | cons _ _ => rfl
          | nil =>
            cases c.argTypes.toList with
            | nil => rfl
            | cons t r =>
              cases r with
              | cons _ _ => rfl
              | nil =>
                simp only
                split
                · rw [opt_ret_pair]
                · rfl
      · simp only
        split
        · rename_i x t _ _
          rw [len_like hl]
        · rfl
    | value f =>
      rw [hc] at h
      cases f <;> simp only [reduceCtorEq, Nat.zero_ne_one, Nat.succ_ne_self, Nat.reduceEqDiff] at h
      rename_i f
      split at h
      · rename_i hsp
        obtain ⟨sp, hsp⟩ := Option.isSome_iff_exists.1 hsp
        refine ⟨fun m => valOf (callFn C cl m f ([] ++ c.args.toList.map ev ++ [])), ([] ++ c.args.toList.map ev ++ []).flatMap V.owns, fun m => ?_, fun m m' hl => call_like cl hl hsp _⟩
        simp only [semOp, hop, hc, hev]
        exact call_same cl m hsp _
      · simp at h
    | invoke r n => rw [hc] at h; simp at h
theorem dec_flat (m m' : Mem S) (T : Ty) {v : V S} (h : flatS v = true) : dec C.E m T v = dec C.E m' T v := by
  cases v <;> first | (cases h; done) | (cases T <;> rfl)
theorem decLeaf_flat (m m' : Mem S) (T : Ty) {v : V S} (h : flatS v = true) : decLeaf m T v = decLeaf m' T v := by
  cases v <;> first | (cases h; done) | rfl
theorem dec_flatA (hE : EnvOK C.E) (m m' : Mem S) (T : Ty) {v : V S} (h : flatA v = true) : dec C.E m T v = dec C.E m' T v := by
  cases v
  case agg cs =>
    have hc : ∀ x, x ∈ cs → flatS x = true := List.all_eq_true.1 h
    cases T <;> try rfl
    exact hE.cong _ _ _ cs fun x hx t => decLeaf_flat m m' t (hc x hx)
  all_goals exact dec_flat m m' T h
theorem guardX {cl : Cl S} {ev : Operand → V S} {o : Oper} (hf : C.fl = true) (h : flOK C ev o = true → ∃ F : Option (V S), ∀ m, (semOp C cl m ev o).opt = F.map fun v => (v, m)) : ∃ F : Option (V S), ∀ m, (semOpX C cl m ev o).opt = F.map fun v => (v, m) := by
  cases e : flOK C ev o with
  | false => exact ⟨none, fun m => by unfold semOpX; rw [hf, e]; rfl⟩
  | true =>
    obtain ⟨F, hF⟩ := h e
    exact ⟨F, fun m => by unfold semOpX; rw [hf, e]; exact hF m⟩
theorem owns_flatA {v : V S} (h : flatA v = true) : v.owns = [] := by
  cases v
  case agg cs =>
    have hc : ∀ x, x ∈ cs → flatS x = true := List.all_eq_true.1 h
    refine List.filterMap_eq_nil_iff.2 fun x hx => ?_
    have := hc x hx
    cases x <;> first | rfl | (cases this; done)
  all_goals first | rfl | (cases h; done)
theorem cls0X (hE : EnvOK C.E) (cl : Cl S) (ev : Operand → V S) (o : Oper) (h : clsX (C := C) o = 0) : ∃ F : Option (V S), ∀ m, (semOpX C cl m ev o).opt = F.map fun v => (v, m) := by
  unfold clsX at h
  cases hf : C.fl with
  | false =>
    rw [hf] at h
    obtain ⟨F, hF⟩ := cls0 cl ev o h
    exact ⟨F, fun m => by unfold semOpX; rw [hf]; exact hF m⟩
  | true =>
    rw [hf] at h
    simp only [cond_true] at h
    refine guardX hf fun hok => ?_
    unfold flOK at hok
    cases hop : o.op <;> rw [hop] at h hok <;> simp only at h hok
    case slice t x lo hi mx =>
      cases hu : C.P.underlying t with
      | none => exact ⟨none, fun m => by simp only [semOp, hop, hu]; rfl⟩
      | some d =>
        cases d
        case slice e =>
          refine ⟨valOf ((D.ofOpt (C.ty e)).bind fun T => semSl [] T (ev x) (lo.map ev) (hi.map ev) (mx.map ev)), fun m => ?_⟩
          simp only [semOp, hop, hu]
          cases C.ty e with
          | none => rfl
          | some T =>
            show (semSl m T (ev x) (lo.map ev) (hi.map ev) (mx.map ev)).opt = (valOf (semSl [] T (ev x) (lo.map ev) (hi.map ev) (mx.map ev))).map fun v => (v, m)
            generalize ev x = v at hok
            cases v <;> simp only [flatS, Bool.false_eq_true] at hok
            · rename_i t' l
              cases t' <;> try rfl
              rename_i t'
              by_cases e : t' = T
              · subst e
                simp only [semSl, if_true]
                rw [val_pair _ [] m]; exact val_pair' _ m
              · simp only [semSl, if_neg e]; rfl
            · rename_i t' l
              by_cases e : t' = T
              · subst e
                simp only [semSl, if_true]
                rw [val_pair _ [] m]; exact val_pair' _ m
              · simp only [semSl, if_neg e]; rfl
            · rfl
        case string =>
          exact ⟨valOf ((semStr (ev x) (lo.map ev) (hi.map ev) (mx.map ev)).bind fun v => (.ret (v, ([] : Mem S)) : D (V S × Mem S))), fun m => by simp only [semOp, hop, hu]; rw [val_pair _ [] m]; exact val_pair' _ m⟩
        case array n e => rw [hu] at h; simp at h
        all_goals exact ⟨none, fun m => by simp only [semOp, hop, hu]; rfl⟩
    case indexAddr t x i =>
      refine ⟨valOf (semIA C [] t (ev x) (ev i)), fun m => ?_⟩
      simp only [semOp, hop]
      rw [IA_same]
      congr 1
      unfold semIA
      generalize ev x = v at hok
      split
      · cases C.ty _ with
        | none => rfl
        | some T =>
          simp only [D.ofOpt, D.bind]
          cases v <;> simp only [flatS, Bool.false_eq_true] at hok
          · rename_i t' l
            cases t' <;> try rfl
            rename_i t'
            by_cases e : t' = T
            · subst e; simp only [elemAt, if_true]; exact val_call' _ _ _ _
            · simp only [elemAt, if_neg e]
          · rename_i t' l
            by_cases e : t' = T
            · subst e; simp only [elemAt, if_true]; exact val_call' _ _ _ _
            · simp only [elemAt, if_neg e]
          · rfl
      · cases sizeOf? C _ with
        | none => rfl
        | some sz => cases v <;> simp only [flatS, Bool.false_eq_true] at hok <;> rfl
      · rfl
    case buildSlice t len ps =>
      have ho : C.own = false := by cases q : C.own <;> rw [q] at h <;> simp at h ⊢
      refine ⟨valOf (semBS C [] t len (ps.toList.map fun p => (p.1, ev p.2))), fun m => ?_⟩
      simp only [semOp, hop]
      have hfl : ∀ p, p ∈ (ps.toList.map fun p => (p.1, ev p.2)) → flatA p.2 = true := by
        intro p hp
        obtain ⟨q, hq, rfl⟩ := List.mem_map.1 hp
        exact List.all_eq_true.1 hok q hq
      generalize (ps.toList.map fun p => (p.1, ev p.2)) = l at hfl
      have hin : ∀ (l : List (Nat × V S)) (k : Nat) (vs : List (V S)), inOrder k l = some vs → (∀ p, p ∈ l → flatA p.2 = true) → ∀ v, v ∈ vs → flatA v = true := by
        intro l
        induction l with
        | nil => intro k vs h _ v hv; simp only [inOrder, Option.some.injEq] at h; subst h; cases hv
        | cons p r ih =>
          intro k vs h hl v hv
          unfold inOrder at h
          split at h
          · obtain ⟨q, hq, rfl⟩ := Option.map_eq_some_iff.1 h
            rcases List.mem_cons.1 hv with e | hv
            · rw [e]; exact hl p (by simp)
            · exact ih _ _ hq (fun p hp => hl p (by simp [hp])) v hv
          · cases h
      unfold semBS
      split
      · cases C.ty _ with
        | none => rfl
        | some T =>
          simp only [D.ofOpt, D.bind]
          cases hv : inOrder 0 l with
          | none => rfl
          | some vs =>
            simp only [D.bind]
            have hvs := hin l 0 vs hv hfl
            have hm : vs.map (dec C.E m T) = vs.map (dec C.E [] T) := List.map_congr_left fun v hv => dec_flatA hE m [] T (hvs v hv)
            have how : vs.flatMap V.owns = [] := List.flatMap_eq_nil_iff.2 fun v hv => owns_flatA (hvs v hv)
            rw [hm, how]
            cases allM (vs.map (dec C.E [] T)) with
            | none => rfl
            | some ls =>
              simp only [D.bind, ho, cond_false, mark]
              split
              · split <;> rfl
              · rfl
      · rfl
    case load t x =>
      cases hr : C.roLd t with
      | false => rw [hr] at h; simp at h
      | true =>
        rw [hr] at hok
        refine ⟨valOf (semLoad C [] t (ev x)), fun m => ?_⟩
        simp only [semOp, hop]
        generalize ev x = v at hok
        cases v <;> simp only [isRo, Bool.not_true, Bool.false_or, Bool.false_and, Bool.false_eq_true] at hok
        simp only [semLoad]
        rw [val_ret' _ [] m]; exact val_ret _ m
    case call c =>
      cases hc : c.callee with
      | builtin b =>
        by_cases hb : b = .len
        · subst hb
          rw [hc] at hok
          simp only at hok
          refine ⟨match c.args.toList, c.argTypes.toList with
            | [x], [t] => if lenOk C t (ev x) = true then (semLen [] (ev x)).opt else none
            | _, _ => none, fun m => ?_⟩
          simp only [semOp, hop, hc]
          cases ha : c.args.toList with
          | nil => rfl
          | cons x r =>
            cases r with
            | cons _ _ => rfl
            | nil =>
              cases c.argTypes.toList with
              | nil => rfl
              | cons t r =>
                cases r with
                | cons _ _ => rfl
                | nil =>
                  simp only
                  rw [ha] at hok
                  have hx : flatS (ev x) = true := by simpa using hok
                  split
                  · rw [opt_ret_pair]
                    have : semLen m (ev x) = semLen [] (ev x) := by
                      generalize ev x = v at hx
                      cases v <;> first | rfl | (rename_i t x; cases t <;> rfl; done) | cases hx
                    rw [this]
                  · rfl
        · refine cls0 cl ev o ?_
          rw [hc] at h
          cases b <;> first | exact absurd rfl hb | exact h
      | value f => exact cls0 cl ev o (by rw [hc] at h; exact h)
      | invoke r n => exact cls0 cl ev o (by rw [hc] at h; exact h)
    all_goals exact cls0 cl ev o h
theorem cls1X (cl : Cl S) (ev : Operand → V S) (hev : ∀ f, ev (.func f) = .clo f [] []) (o : Oper) (h : clsX (C := C) o = 1) : ∃ (F : Mem S → Option (V S)) (g : List Nat), (∀ m, (semOpX C cl m ev o).opt = (F m).map fun v => (v, mark m g)) ∧ ∀ m m', Like m m' → F m' = F m := by
  have hc : cls (C := C) o = 1 := by
    unfold clsX at h
    cases hf : C.fl with
    | false => rw [hf] at h; exact h
    | true =>
      rw [hf] at h
      simp only [cond_true] at h
      cases hop : o.op <;> rw [hop] at h <;> simp only at h <;> try (first | exact h | (simp at h; done))
      case slice t x lo hi mx => split at h <;> simp at h
      case buildSlice t len ps => cases q : C.own <;> rw [q] at h <;> simp at h
      case load t x => unfold cls; rw [hop]
      case call c => cases hcc : c.callee with
        | builtin b => rw [hcc] at h; cases b <;> first | exact h | (simp at h; done)
        | value f => rw [hcc] at h; exact h
        | invoke r n => rw [hcc] at h; exact h
  obtain ⟨F, g, hF, hl⟩ := cls1 cl ev hev o hc
  cases hf : C.fl with
  | false => exact ⟨F, g, fun m => by unfold semOpX; rw [hf]; exact hF m, hl⟩
  | true =>
    cases e : flOK C ev o with
    | false => exact ⟨fun _ => none, [], fun m => by unfold semOpX; rw [hf, e]; rfl, fun _ _ _ => rfl⟩
    | true => exact ⟨F, g, fun m => by unfold semOpX; rw [hf, e]; exact hF m, hl⟩
theorem lc_opX (hE : EnvOK C.E) (cl : Cl S) (ev : Operand → V S) (hev : ∀ f, ev (.func f) = .clo f [] []) (o : Oper) (h : isLC C o = true) : ∃ (F : Mem S → Option (V S)) (g : List Nat), (∀ m, (semOpX C cl m ev o).opt = (F m).map fun v => (v, mark m g)) ∧ ∀ m m' v, Sub m m' → F m = some v → F m' = some v := by
  obtain ⟨F, g, hF, hl⟩ := lc_op hE cl ev hev o h
  cases hf : C.fl with
  | false => exact ⟨F, g, fun m => by unfold semOpX; rw [hf]; exact hF m, hl⟩
  | true =>
    cases e : flOK C ev o with
    | false => exact ⟨fun _ => none, [], fun m => by unfold semOpX; rw [hf, e]; rfl, fun _ _ _ _ h => by cases h⟩
    | true => exact ⟨F, g, fun m => by unfold semOpX; rw [hf, e]; exact hF m, hl⟩
theorem al_opX (cl : Cl S) (ev : Operand → V S) (o : Oper) (h : isAl o = true) : ∃ Z : Option (List (V S)), ∀ m, (semOpX C cl m ev o).opt = Z.map fun cs => (.ptr m.length 0, m ++ [.box cs false]) := by
  obtain ⟨Z, hZ⟩ := al_op (C := C) cl ev o h
  cases hf : C.fl with
  | false => exact ⟨Z, fun m => by unfold semOpX; rw [hf]; exact hZ m⟩
  | true =>
    cases e : flOK C ev o with
    | false => exact ⟨none, fun m => by unfold semOpX; rw [hf, e]; rfl⟩
    | true => exact ⟨Z, fun m => by unfold semOpX; rw [hf, e]; exact hZ m⟩
/-- A load alone, of no element of an own list. -/
def isLd (C : Ctx S) (o : Oper) : Bool := C.fl && (match o.op with
  | .load .. => true
  | _ => false)
theorem ld_opX (cl : Cl S) (ev : Operand → V S) (o : Oper) (h : isLd C o = true) : ∃ (F : Mem S → Option (V S)), (∀ m, (semOpX C cl m ev o).opt = (F m).map fun v => (v, m)) ∧ ∀ m m' v, BoxKeep C m m' → F m = some v → F m' = some v := by
  unfold isLd at h
  simp only [Bool.and_eq_true] at h
  obtain ⟨hf, h⟩ := h
  cases hop : o.op <;> rw [hop] at h <;> simp only [Bool.false_eq_true] at h
  rename_i t x
  cases e : flOK C ev o with
  | false => exact ⟨fun _ => none, fun m => by unfold semOpX; rw [hf, e]; rfl, fun _ _ _ _ h => by cases h⟩
  | true =>
    refine ⟨fun m => valOf (semLoad C m t (ev x)), fun m => by unfold semOpX; rw [hf, e]; simp only [cond_true, semOp, hop]; exact load_same m t _, fun m m' v hk hv => ?_⟩
    unfold flOK at e
    rw [hop] at e
    simp only [Bool.and_eq_true] at e
    have ew := e.2
    have e := e.1.2
    simp only at hv ⊢
    generalize ev x = y at e ew hv
    cases y <;> first | exact absurd hv val_fail | (cases e; done) | skip
    · rename_i id off
      have hw : C.wb id = false := by simpa [notW] using ew
      unfold semLoad at hv ⊢
      simp only at hv ⊢
      cases hm : m[id]? with
      | none => rw [hm] at hv; exact absurd hv val_fail
      | some ob =>
        rw [hm] at hv
        cases ob <;> first | exact absurd hv val_fail | skip
        rename_i cs fz
        rw [hk id cs fz hw hm]
        simp only at hv ⊢
        exact (val_ret' _ m' m).trans hv
    · unfold semLoad at hv ⊢
      simp only at hv ⊢
      exact (val_ret' _ m' m).trans hv
def isAp (C : Ctx S) (o : Oper) : Bool := C.fl && (match o.op with
  | .call c => (match c.callee with
    | .builtin .append => true
    | _ => false)
  | _ => false)
theorem ap_opX (cl : Cl S) (ev : Operand → V S) (o : Oper) (h : isAp C o = true) (m : Mem S) (r : V S × Mem S) (hr : (semOpX C cl m ev o).opt = some r) : BoxKeep C m r.2 := by
  unfold isAp at h
  simp only [Bool.and_eq_true] at h
  obtain ⟨hf, h⟩ := h
  have hr := semOpX_some hr
  cases hop : o.op <;> rw [hop] at h <;> try (exfalso; simp at h; done)
  rename_i c
  simp only at h
  cases hc : c.callee <;> rw [hc] at h <;> try (exfalso; simp at h; done)
  rename_i b
  cases b <;> try (exfalso; simp at h; done)
  simp only [semOp, hop, hc] at hr
  have keep_app : ∀ ob : Ob S, BoxKeep C m (m ++ [ob]) := fun ob id cs fz _ hm => by rw [List.getElem?_append_left (List.getElem?_eq_some_iff.1 hm).1]; exact hm
  split at hr
  · split at hr
    · split at hr
      · obtain ⟨T, hT, hr⟩ := opt_ofOpt_bind hr
        unfold semAppend at hr
        obtain ⟨ys, hy, hr⟩ := opt_ofOpt_bind hr
        split at hr
        · rcases split_some hr with ⟨_, hr⟩ | ⟨_, hr⟩
          · simp only [D.opt, Option.some.injEq] at hr; subst hr; exact keep_app _
          · cases hr
        · split at hr
          · rcases split_some hr with ⟨_, hr⟩ | ⟨_, hr⟩
            · simp only [D.opt, Option.some.injEq] at hr; subst hr; exact fun _ _ _ _ h => h
            · rcases split_some hr with ⟨_, hr⟩ | ⟨_, hr⟩
              · simp only [D.opt, Option.some.injEq] at hr; subst hr; exact keep_app _
              · cases hr
          · cases hr
        · split at hr
          · rename_i id g hq ob e' t l g' fz hm
            split at hr
            · split at hr
              · rcases split_some hr with ⟨_, hr⟩ | ⟨_, hr⟩
                · simp only [D.opt, Option.some.injEq] at hr
                  subst hr
                  intro i cs fz' _ hi
                  by_cases q : i = id
                  · subst q; rw [hm] at hi; cases hi
                  · rw [List.getElem?_set_ne (fun z => q z.symm)]; exact hi
                · cases hr
              · cases hr
            · cases hr
          · cases hr
        · cases hr
      · cases hr
    · cases hr
  · cases hr
theorem ap_opXr (cl : Cl S) (ev : Operand → V S) (o : Oper) (h : isAp C o = true) (m : Mem S) (r : V S × Mem S) (hr : (semOpX C cl m ev o).opt = some r) : BoxKeep C r.2 m := by
  unfold isAp at h
  simp only [Bool.and_eq_true] at h
  obtain ⟨hf, h⟩ := h
  have hr := semOpX_some hr
  cases hop : o.op <;> rw [hop] at h <;> try (exfalso; simp at h; done)
  rename_i c
  simp only at h
  cases hc : c.callee <;> rw [hc] at h <;> try (exfalso; simp at h; done)
  rename_i b
  cases b <;> try (exfalso; simp at h; done)
  simp only [semOp, hop, hc] at hr
  have keep_app : ∀ (e : TypeId) (t : Ty) (l : List (den S t)) (g : Nat) (z : Bool), BoxKeep C (m ++ [.arr e t l g z]) m := fun e t l g z id cs fz _ hm => by
    rcases Nat.lt_or_ge id m.length with q | q
    · rwa [List.getElem?_append_left q] at hm
    · rw [List.getElem?_append_right q] at hm
      cases hk : id - m.length with
      | zero => rw [hk] at hm; cases hm
      | succ k => rw [hk] at hm; simp at hm
  split at hr
  · split at hr
    · split at hr
      · obtain ⟨T, hT, hr⟩ := opt_ofOpt_bind hr
        unfold semAppend at hr
        obtain ⟨ys, hy, hr⟩ := opt_ofOpt_bind hr
        split at hr
        · rcases split_some hr with ⟨_, hr⟩ | ⟨_, hr⟩
          · simp only [D.opt, Option.some.injEq] at hr; subst hr; exact keep_app _ _ _ _ _
          · cases hr
        · split at hr
          · rcases split_some hr with ⟨_, hr⟩ | ⟨_, hr⟩
            · simp only [D.opt, Option.some.injEq] at hr; subst hr; exact fun _ _ _ _ h => h
            · rcases split_some hr with ⟨_, hr⟩ | ⟨_, hr⟩
              · simp only [D.opt, Option.some.injEq] at hr; subst hr; exact keep_app _ _ _ _ _
              · cases hr
          · cases hr
        · split at hr
          · rename_i id g hq ob e' t l g' fz hm
            split at hr
            · split at hr
              · rcases split_some hr with ⟨_, hr⟩ | ⟨_, hr⟩
                · simp only [D.opt, Option.some.injEq] at hr
                  subst hr
                  intro i cs fz' _ hi
                  by_cases q : i = id
                  · subst q; rw [List.getElem?_set_self (List.getElem?_eq_some_iff.1 hm).1] at hi; cases hi
                  · rwa [List.getElem?_set_ne (fun z => q z.symm)] at hi
                · cases hr
              · cases hr
            · cases hr
          · cases hr
        · cases hr
      · cases hr
    · cases hr
  · cases hr
/-- A call of a closure without arguments. -/
def isCw (C : Ctx S) (o : Oper) : Bool := C.fl && (match o.op with
  | .call c => c.args.isEmpty && (match c.callee with
    | .value _ => true
    | _ => false)
  | _ => false)
theorem mark_keep (m : Mem S) (g : List Nat) : BoxKeep C m (mark m g) := fun id cs fz _ hm => by
  rcases like_cases (mark_like m g) id with ⟨h1, _⟩ | ⟨_, _, _, _, _, _, h1, _⟩ | ⟨_, _, h1, h2⟩ | ⟨_, _, _, h1, _⟩ | ⟨_, h1, _⟩
  · rw [h1] at hm; cases hm
  · rw [h1] at hm; cases hm
  · rw [h1] at hm; cases hm; exact h2
  · rw [h1] at hm; cases hm
  · rw [h1] at hm; cases hm
theorem cw_opX (cl : Cl S) (hW : ClW C cl) (ev : Operand → V S) (o : Oper) (h : isCw C o = true) (m : Mem S) (r : V S × Mem S) (hr : (semOpX C cl m ev o).opt = some r) : BoxKeep C m r.2 := by
  unfold isCw at h
  simp only [Bool.and_eq_true] at h
  obtain ⟨hf, h⟩ := h
  have hr0 := hr
  have hr := semOpX_some hr
  cases hop : o.op <;> rw [hop] at h <;> try (exfalso; simp at h; done)
  rename_i c
  simp only [Bool.and_eq_true] at h
  obtain ⟨ha, h⟩ := h
  cases hc : c.callee <;> rw [hc] at h <;> try (exfalso; simp at h; done)
  rename_i f
  have hok : flOK C ev o = true := by
    cases e : flOK C ev o with
    | true => rfl
    | false => unfold semOpX at hr0; rw [hf, e] at hr0; cases hr0
  unfold flOK at hok
  rw [hop] at hok
  simp only [hc, ha, cond_true] at hok
  simp only [semOp, hop, hc] at hr
  generalize hv : ev f = v at hok hr
  cases v <;> first | (simp [isWf] at hok; done) | skip
  rename_i g first caps
  have hwf : C.wf g = true := hok
  simp only [callFn] at hr
  cases hsp : C.spec g with
  | some sp =>
    rw [hsp] at hr
    simp only at hr
    obtain ⟨cs, hcs, hr⟩ := opt_ofOpt_bind hr
    simp only [D.opt] at hr
    cases hrun : sp.run cs with
    | none => rw [hrun] at hr; simp at hr
    | some q =>
      rw [hrun] at hr
      simp only [Option.bind_some, D.opt, Option.some.injEq] at hr
      subst hr
      exact mark_keep m _
  | none =>
    rw [hsp] at hr
    simp only at hr
    split at hr
    · exact hW g _ m r.1 r.2 hwf hr
    · cases hr
end
end Go.Lv
namespace Go.Lv
set_option linter.all false
open Go Go.RowKit
variable {S : Nat → Type}
section
variable (C : Ctx S) (cl : Cl S) (all : List Oper)
def beqB (a b : Bool) : Bool := a == b
def dstOf (j : Nat) : Option Nat := (all[j]?).bind (·.dst)
def guardV (v : Option (V S)) (want : Bool) : Option Bool := match v with
  | some (.cell .bool b) => some (beqB b want)
  | some (.tup []) => some false
  | _ => none
def evalI (o : Oper) (s : St S) : Option (V S × Mem S) :=
  match o.guard with
  | none => (semOpX C cl s.mem (s.ev C) o).opt
  | some (j, want) => match dstOf all j with
    | some d => match guardV s.tmps[d]? want with
      | some true => (semOpX C cl s.mem (s.ev C) o).opt
      | some false => some (.tup [], s.mem)
      | none => none
    | none => none
def stepO (o : Oper) (s : St S) : Option (St S) := (evalI C cl all o s).map fun p => s.put o.dst p
def stepI (i : Nat) (s : St S) : Option (St S) := match all[i]? with
  | none => some s
  | some o => stepO C cl all o s
def runL : List Nat → St S → Option (St S)
  | [], s => some s
  | i :: l, s => (stepI C cl all i s).bind (runL l)
def opTmps (o : Oper) : List Nat := o.op.operands.toList.filterMap fun | .tmp t => some t | _ => none
def reads (o : Oper) : List Nat := (match o.guard with | some (j, _) => (dstOf all j).toList | none => []) ++ opTmps o
def compat (o p : Oper) : Bool :=
  (clsX (C := C) o == 0 || clsX (C := C) p == 0 || (clsX (C := C) o == 1 && clsX (C := C) p == 1)) &&
  (match o.dst with | some d => !(reads all p).contains d | none => true) && (match p.dst with | some d => !(reads all o).contains d | none => true) &&
  (match o.dst, p.dst with | some a, some b => !(a == b) | _, _ => true)
/-- Of two in the text's order: the later one may be done ahead. -/
def compatD (o p : Oper) : Bool := compat C all o p || (((isLC C o && isAl p) || (isLd C o && (isAp C p || isCw C p)) || (isAp C o && isLd C p)) &&
  (match o.dst with | some d => !(reads all p).contains d | none => true) && (match p.dst with | some d => !(reads all o).contains d | none => true) &&
  (match o.dst, p.dst with | some a, some b => !(a == b) | _, _ => true))
end
section
variable {C : Ctx S} {cl : Cl S} {all : List Oper}
theorem ev_congr {s s' : St S} {x : Operand} (h : ∀ t, x = .tmp t → s.tmps[t]? = s'.tmps[t]?) : s.ev C x = s'.ev C x := by
  cases x with
  | tmp t => simp only [St.ev, List.getD_eq_getElem?_getD, h t rfl]
  | _ => rfl
theorem evalI_congr {o : Oper} {s s' : St S} (h : ∀ t, t ∈ reads all o → s.tmps[t]? = s'.tmps[t]?) (hm : s.mem = s'.mem) : evalI C cl all o s = evalI C cl all o s' := by
  have hop : semOpX C cl s.mem (s.ev C) o = semOpX C cl s'.mem (s'.ev C) o := by
    rw [hm]
    refine semOpX_congr cl _ o fun x hx => ev_congr fun t ht => h t ?_
    subst ht
    simp only [reads, List.mem_append]
    right
    simp only [opTmps, List.mem_filterMap]
    exact ⟨_, hx, rfl⟩
  unfold evalI
  cases hg : o.guard with
  | none => simp only [hop]
  | some g =>
    obtain ⟨j, want⟩ := g
    simp only
    cases hd : dstOf all j with
    | none => rfl
    | some d =>
      have := h d (by simp [reads, hg, hd])
      simp only [this, hm]
      split <;> first | exact congrArg D.opt (hm ▸ hop) | rfl
theorem evalI0 (hE : EnvOK C.E) {o : Oper} (h : clsX (C := C) o = 0) (tm : List (V S)) : ∃ F : Option (V S), ∀ m, evalI C cl all o ⟨tm, m⟩ = F.map fun v => (v, m) := by
  have hev : ∀ m m' : Mem S, (St.ev C ⟨tm, m⟩) = (St.ev C ⟨tm, m'⟩) := fun m m' => funext fun x => by cases x <;> rfl
  obtain ⟨F, hF⟩ := cls0X (C := C) hE cl (St.ev C ⟨tm, []⟩) o h
  have hF' : ∀ m, (semOpX C cl m (St.ev C ⟨tm, m⟩) o).opt = F.map fun v => (v, m) := fun m => by rw [hev m []]; exact hF m
  unfold evalI
  cases hg : o.guard with
  | none => exact ⟨F, fun m => hF' m⟩
  | some g =>
    obtain ⟨j, want⟩ := g
    simp only
    cases hd : dstOf all j with
    | none => exact ⟨none, fun m => rfl⟩
    | some d =>
      simp only
      cases guardV tm[d]? want with
      | none => exact ⟨none, fun m => rfl⟩
      | some b => cases b with
        | true => exact ⟨F, fun m => hF' m⟩
        | false => exact ⟨some (.tup []), fun m => rfl⟩
theorem evalI1 {o : Oper} (h : clsX (C := C) o = 1) (tm : List (V S)) : ∃ (F : Mem S → Option (V S)) (g : List Nat), (∀ m, evalI C cl all o ⟨tm, m⟩ = (F m).map fun v => (v, mark m g)) ∧ ∀ m m', Like m m' → F m' = F m := by
  have hev : ∀ m m' : Mem S, (St.ev C ⟨tm, m⟩) = (St.ev C ⟨tm, m'⟩) := fun m m' => funext fun x => by cases x <;> rfl
  obtain ⟨F, g, hF, hl⟩ := cls1X (C := C) cl (St.ev C ⟨tm, []⟩) (fun f => rfl) o h
  have hF' : ∀ m, (semOpX C cl m (St.ev C ⟨tm, m⟩) o).opt = (F m).map fun v => (v, mark m g) := fun m => by rw [hev m []]; exact hF m
  unfold evalI
  cases hg : o.guard with
  | none => exact ⟨F, g, fun m => hF' m, hl⟩
  | some gd =>
    obtain ⟨j, want⟩ := gd
    simp only
    cases hd : dstOf all j with
    | none => exact ⟨fun _ => none, [], fun m => rfl, fun _ _ _ => rfl⟩
    | some d =>
      simp only
      cases guardV tm[d]? want with
      | none => exact ⟨fun _ => none, [], fun m => rfl, fun _ _ _ => rfl⟩
      | some b => cases b with
        | true => exact ⟨F, g, fun m => hF' m, hl⟩
        | false => exact ⟨fun _ => some (.tup []), [], fun m => rfl, fun _ _ _ => rfl⟩
theorem compat_symm {o p : Oper} (h : compat C all o p = true) : compat C all p o = true := by
  simp only [compat, Bool.and_eq_true, Bool.or_eq_true, beq_iff_eq] at h ⊢
  obtain ⟨⟨⟨h1, h2⟩, h3⟩, h4⟩ := h
  refine ⟨⟨⟨?_, h3⟩, h2⟩, ?_⟩
  · rcases h1 with (q | q) | ⟨q, r⟩
    · exact .inl (.inr q)
    · exact .inl (.inl q)
    · exact .inr ⟨r, q⟩
  · cases ho : o.dst <;> cases hp : p.dst <;> simp only [ho, hp] at h4 ⊢
    simp only [Bool.not_eq_true', beq_eq_false_iff_ne] at h4 ⊢
    exact fun q => h4 q.symm
def setD (tm : List (V S)) (d : Option Nat) (v : V S) : List (V S) := match d with | some d => tm.set d v | none => tm
theorem put_eq (s : St S) (d : Option Nat) (p : V S × Mem S) : s.put d p = ⟨setD s.tmps d p.1, p.2⟩ := by cases d <;> rfl
theorem setD_comm (tm : List (V S)) (d e : Option Nat) (u v : V S) (h : ∀ a b, d = some a → e = some b → a ≠ b) : setD (setD tm d u) e v = setD (setD tm e v) d u := by
  cases d with
  | none => rfl
  | some a => cases e with
    | none => rfl
    | some b => exact List.set_comm u v (h a b rfl rfl)
theorem setD_get (tm : List (V S)) (d : Option Nat) (u : V S) (t : Nat) (h : d ≠ some t) : (setD tm d u)[t]? = tm[t]? := by
  cases d with
  | none => rfl
  | some a => exact List.getElem?_set_ne (fun q => h (by rw [q]))
theorem commute (hE : EnvOK C.E) {o p : Oper} (h : compat C all o p = true) (s : St S) : (stepO C cl all o s).bind (stepO C cl all p) = (stepO C cl all p s).bind (stepO C cl all o) := by
  have main : ∀ (o p : Oper), compat C all o p = true → (clsX (C := C) o = 0 ∨ (clsX (C := C) o = 1 ∧ clsX (C := C) p = 1)) → (stepO C cl all o s).bind (stepO C cl all p) = (stepO C cl all p s).bind (stepO C cl all o) := by
    intro o p h hc
    simp only [compat, Bool.and_eq_true] at h
    obtain ⟨⟨⟨_, h2⟩, h3⟩, h4⟩ := h
    have n1 : ∀ t, t ∈ reads all p → o.dst ≠ some t := by
      intro t ht e
      rw [e] at h2
      simp only [Bool.not_eq_true', List.contains_eq_mem, decide_eq_false_iff_not] at h2
      exact h2 ht
    have n2 : ∀ t, t ∈ reads all o → p.dst ≠ some t := by
      intro t ht e
      rw [e] at h3
      simp only [Bool.not_eq_true', List.contains_eq_mem, decide_eq_false_iff_not] at h3
      exact h3 ht
    have n3 : ∀ a b, o.dst = some a → p.dst = some b → a ≠ b := by
      intro a b ha hb
      rw [ha, hb] at h4
      simp only [Bool.not_eq_true', beq_eq_false_iff_ne] at h4
      exact h4
    obtain ⟨tm, m⟩ := s
    rcases hc with hc | ⟨hc, hp⟩
    · obtain ⟨F, hF⟩ := evalI0 (C := C) (cl := cl) (all := all) hE hc tm
      simp only [stepO, hF m]
      cases F with
      | none =>
        simp only [Option.map_none, Option.bind_none]
        cases hp : evalI C cl all p ⟨tm, m⟩ with
        | none => rfl
        | some r =>
          simp only [Option.map_some, Option.bind_some, put_eq, stepO]
          have : evalI C cl all o ⟨setD tm p.dst r.1, r.2⟩ = none := by
            rw [evalI_congr (s := ⟨setD tm p.dst r.1, r.2⟩) (s' := ⟨tm, r.2⟩) (fun t ht => setD_get tm p.dst r.1 t (n2 t ht)) rfl, hF]; rfl
          rw [this]; rfl
      | some v =>
        simp only [Option.map_some, Option.bind_some, put_eq, stepO]
        have e1 : evalI C cl all p ⟨setD tm o.dst v, m⟩ = evalI C cl all p ⟨tm, m⟩ := evalI_congr (fun t ht => setD_get tm o.dst v t (n1 t ht)) rfl
        rw [e1]
        cases hp : evalI C cl all p ⟨tm, m⟩ with
        | none => rfl
        | some r =>
          simp only [Option.map_some, Option.bind_some, put_eq, stepO]
          have e2 : evalI C cl all o ⟨setD tm p.dst r.1, r.2⟩ = some (v, r.2) := by
            rw [evalI_congr (s := ⟨setD tm p.dst r.1, r.2⟩) (s' := ⟨tm, r.2⟩) (fun t ht => setD_get tm p.dst r.1 t (n2 t ht)) rfl, hF]; rfl
          rw [e2]
          simp only [Option.map_some, setD_comm tm o.dst p.dst v r.1 n3]
    · obtain ⟨F, g, hF, lF⟩ := evalI1 (C := C) (cl := cl) (all := all) hc tm
      obtain ⟨G, k, hG, lG⟩ := evalI1 (C := C) (cl := cl) (all := all) hp tm
      simp only [stepO, hF m, hG m]
      have e1 : ∀ v m', evalI C cl all p ⟨setD tm o.dst v, m'⟩ = (G m').map fun u => (u, mark m' k) := fun v m' => by
        rw [evalI_congr (s := ⟨setD tm o.dst v, m'⟩) (s' := ⟨tm, m'⟩) (fun t ht => setD_get tm o.dst v t (n1 t ht)) rfl, hG]
      have e2 : ∀ v m', evalI C cl all o ⟨setD tm p.dst v, m'⟩ = (F m').map fun u => (u, mark m' g) := fun v m' => by
        rw [evalI_congr (s := ⟨setD tm p.dst v, m'⟩) (s' := ⟨tm, m'⟩) (fun t ht => setD_get tm p.dst v t (n2 t ht)) rfl, hF]
      have q1 : G (mark m g) = G m := lG _ _ (mark_like m g)
      have q2 : F (mark m k) = F m := lF _ _ (mark_like m k)
      cases hf : F m with
      | none =>
        simp only [Option.map_none, Option.bind_none]
        cases hg : G m with
        | none => rfl
        | some u => simp only [Option.map_some, Option.bind_some, put_eq, stepO, e2, q2, hf, Option.map_none]
      | some v =>
        simp only [Option.map_some, Option.bind_some, put_eq, stepO, e1, q1]
        cases hg : G m with
        | none => rfl
        | some u =>
          simp only [Option.map_some, Option.bind_some, put_eq, stepO, e2, q2, hf, setD_comm tm o.dst p.dst v u n3, mark_comm m g k]
  have h' := h
  simp only [compat, Bool.and_eq_true, Bool.or_eq_true, beq_iff_eq] at h'
  rcases h'.1.1.1 with (q | q) | ⟨q, r⟩
  · exact main o p h (.inl q)
  · exact (main p o (compat_symm h) (.inl q)).symm
  · exact main o p h (.inr ⟨q, r⟩)
theorem evalLC (hE : EnvOK C.E) {o : Oper} (h : isLC C o = true) (tm : List (V S)) : ∃ (F : Mem S → Option (V S)) (g : List Nat), (∀ m, evalI C cl all o ⟨tm, m⟩ = (F m).map fun v => (v, mark m g)) ∧ ∀ m m' v, Sub m m' → F m = some v → F m' = some v := by
  have hev : ∀ m m' : Mem S, (St.ev C ⟨tm, m⟩) = (St.ev C ⟨tm, m'⟩) := fun m m' => funext fun x => by cases x <;> rfl
  obtain ⟨F, g, hF, hl⟩ := lc_opX (C := C) hE cl (St.ev C ⟨tm, []⟩) (fun f => rfl) o h
  have hF' : ∀ m, (semOpX C cl m (St.ev C ⟨tm, m⟩) o).opt = (F m).map fun v => (v, mark m g) := fun m => by rw [hev m []]; exact hF m
  unfold evalI
  cases hg : o.guard with
  | none => exact ⟨F, g, fun m => hF' m, hl⟩
  | some gd =>
    obtain ⟨j, want⟩ := gd
    simp only
    cases hd : dstOf all j with
    | none => exact ⟨fun _ => none, [], fun m => rfl, fun _ _ _ _ h => by cases h⟩
    | some d =>
      simp only
      cases guardV tm[d]? want with
      | none => exact ⟨fun _ => none, [], fun m => rfl, fun _ _ _ _ h => by cases h⟩
      | some b => cases b with
        | true => exact ⟨F, g, fun m => hF' m, hl⟩
        | false => exact ⟨fun _ => some (.tup []), [], fun m => rfl, fun _ _ _ _ h => h⟩
theorem evalAl {o : Oper} (h : isAl o = true) (tm : List (V S)) : ∃ Z : Option (Option (List (V S))), ∀ m, evalI C cl all o ⟨tm, m⟩ = Z.map fun z => match z with
    | some cs => (.ptr m.length 0, m ++ [.box cs false])
    | none => (.tup [], m) := by
  have hev : ∀ m m' : Mem S, (St.ev C ⟨tm, m⟩) = (St.ev C ⟨tm, m'⟩) := fun m m' => funext fun x => by cases x <;> rfl
  obtain ⟨Z, hZ⟩ := al_opX (C := C) cl (St.ev C ⟨tm, []⟩) o h
  have hZ' : ∀ m, (semOpX C cl m (St.ev C ⟨tm, m⟩) o).opt = (Z.map some).map fun z => match z with
    | some cs => (.ptr m.length 0, m ++ [.box cs false])
    | none => (.tup [], m) := fun m => by rw [hev m [], hZ m]; cases Z <;> rfl
  unfold evalI
  cases hg : o.guard with
  | none => exact ⟨Z.map some, fun m => hZ' m⟩
  | some gd =>
    obtain ⟨j, want⟩ := gd
    simp only
    cases hd : dstOf all j with
    | none => exact ⟨none, fun m => rfl⟩
    | some d =>
      simp only
      cases guardV tm[d]? want with
      | none => exact ⟨none, fun m => rfl⟩
      | some b => cases b with
        | true => exact ⟨Z.map some, fun m => hZ' m⟩
        | false => exact ⟨some none, fun m => rfl⟩
theorem evalLd {o : Oper} (h : isLd C o = true) (tm : List (V S)) : ∃ (F : Mem S → Option (V S)), (∀ m, evalI C cl all o ⟨tm, m⟩ = (F m).map fun v => (v, m)) ∧ ∀ m m' v, BoxKeep C m m' → F m = some v → F m' = some v := by
  have hev : ∀ m m' : Mem S, (St.ev C ⟨tm, m⟩) = (St.ev C ⟨tm, m'⟩) := fun m m' => funext fun x => by cases x <;> rfl
  obtain ⟨F, hF, hl⟩ := ld_opX (C := C) cl (St.ev C ⟨tm, []⟩) o h
  have hF' : ∀ m, (semOpX C cl m (St.ev C ⟨tm, m⟩) o).opt = (F m).map fun v => (v, m) := fun m => by rw [hev m []]; exact hF m
  unfold evalI
  cases hg : o.guard with
  | none => exact ⟨F, hF', hl⟩
  | some gd =>
    obtain ⟨j, want⟩ := gd
    simp only
    cases hd : dstOf all j with
    | none => exact ⟨fun _ => none, fun m => rfl, fun _ _ _ _ h => by cases h⟩
    | some d =>
      simp only
      cases guardV tm[d]? want with
      | none => exact ⟨fun _ => none, fun m => rfl, fun _ _ _ _ h => by cases h⟩
      | some b => cases b with
        | true => exact ⟨F, hF', hl⟩
        | false => exact ⟨fun _ => some (.tup []), fun m => rfl, fun _ _ _ _ h => h⟩
theorem evalAp {o : Oper} (h : isAp C o = true) (s : St S) (r : V S × Mem S) (hr : evalI C cl all o s = some r) : BoxKeep C s.mem r.2 := by
  unfold evalI at hr
  cases hg : o.guard with
  | none => rw [hg] at hr; exact ap_opX cl _ o h s.mem r hr
  | some gd =>
    obtain ⟨j, want⟩ := gd
    rw [hg] at hr
    simp only at hr
    cases hd : dstOf all j with
    | none => rw [hd] at hr; cases hr
    | some d =>
      rw [hd] at hr
      simp only at hr
      cases hv : guardV s.tmps[d]? want with
      | none => rw [hv] at hr; cases hr
      | some b =>
        rw [hv] at hr
        cases b with
        | true => exact ap_opX cl _ o h s.mem r hr
        | false => simp only [Option.some.injEq] at hr; subst hr; exact fun _ _ _ _ h => h
theorem evalApr {o : Oper} (h : isAp C o = true) (s : St S) (r : V S × Mem S) (hr : evalI C cl all o s = some r) : BoxKeep C r.2 s.mem := by
  unfold evalI at hr
  cases hg : o.guard with
  | none => rw [hg] at hr; exact ap_opXr cl _ o h s.mem r hr
  | some gd =>
    obtain ⟨j, want⟩ := gd
    rw [hg] at hr
    simp only at hr
    cases hd : dstOf all j with
    | none => rw [hd] at hr; cases hr
    | some d =>
      rw [hd] at hr
      simp only at hr
      cases hv : guardV s.tmps[d]? want with
      | none => rw [hv] at hr; cases hr
      | some b =>
        rw [hv] at hr
        cases b with
        | true => exact ap_opXr cl _ o h s.mem r hr
        | false => simp only [Option.some.injEq] at hr; subst hr; exact fun _ _ _ _ h => h
theorem evalCw (hW : ClW C cl) {o : Oper} (h : isCw C o = true) (s : St S) (r : V S × Mem S) (hr : evalI C cl all o s = some r) : BoxKeep C s.mem r.2 := by
  unfold evalI at hr
  cases hg : o.guard with
  | none => rw [hg] at hr; exact cw_opX cl hW _ o h s.mem r hr
  | some gd =>
    obtain ⟨j, want⟩ := gd
    rw [hg] at hr
    simp only at hr
    cases hd : dstOf all j with
    | none => rw [hd] at hr; cases hr
    | some d =>
      rw [hd] at hr
      simp only at hr
      cases hv : guardV s.tmps[d]? want with
      | none => rw [hv] at hr; cases hr
      | some b =>
        rw [hv] at hr
        cases b with
        | true => exact cw_opX cl hW _ o h s.mem r hr
        | false => simp only [Option.some.injEq] at hr; subst hr; exact fun _ _ _ _ h => h
theorem commuteD (hE : EnvOK C.E) (hW : ClW C cl) {o p : Oper} (h : compatD C all o p = true) (s s' : St S) (hs : (stepO C cl all o s).bind (stepO C cl all p) = some s') : (stepO C cl all p s).bind (stepO C cl all o) = some s' := by
  simp only [compatD, Bool.or_eq_true, Bool.and_eq_true] at h
  rcases h with h | ⟨⟨⟨hlcal, h2⟩, h3⟩, h4⟩
  · rw [← commute hE h]; exact hs
  have n1 : ∀ t, t ∈ reads all p → o.dst ≠ some t := by
    intro t ht e
    rw [e] at h2
    simp only [Bool.not_eq_true', List.contains_eq_mem, decide_eq_false_iff_not] at h2
    exact h2 ht
  have n2 : ∀ t, t ∈ reads all o → p.dst ≠ some t := by
    intro t ht e
    rw [e] at h3
    simp only [Bool.not_eq_true', List.contains_eq_mem, decide_eq_false_iff_not] at h3
    exact h3 ht
  have n3 : ∀ a b, o.dst = some a → p.dst = some b → a ≠ b := by
    intro a b ha hb
    rw [ha, hb] at h4
    simp only [Bool.not_eq_true', beq_eq_false_iff_ne] at h4
    exact h4
  obtain ⟨tm, m⟩ := s
  have e1 : ∀ v m', evalI C cl all p ⟨setD tm o.dst v, m'⟩ = evalI C cl all p ⟨tm, m'⟩ := fun v m' => evalI_congr (s := ⟨setD tm o.dst v, m'⟩) (s' := ⟨tm, m'⟩) (fun t ht => setD_get tm o.dst v t (n1 t ht)) rfl
  have e2 : ∀ v m', evalI C cl all o ⟨setD tm p.dst v, m'⟩ = evalI C cl all o ⟨tm, m'⟩ := fun v m' => evalI_congr (s := ⟨setD tm p.dst v, m'⟩) (s' := ⟨tm, m'⟩) (fun t ht => setD_get tm p.dst v t (n2 t ht)) rfl
  rcases hlcal with (⟨hlc, hal⟩ | ⟨hld, hap⟩) | ⟨hap, hld⟩
  rotate_left 2
  · obtain ⟨F, hF, hsub⟩ := evalLd (C := C) (cl := cl) (all := all) hld tm
    cases hr : evalI C cl all o ⟨tm, m⟩ with
    | none => simp only [stepO, hr] at hs; cases hs
    | some r =>
      have hk := evalApr (C := C) (cl := cl) (all := all) hap ⟨tm, m⟩ r hr
      simp only [stepO, hr, Option.map_some, Option.bind_some, put_eq, e1, hF r.2] at hs
      cases hv : F r.2 with
      | none => rw [hv] at hs; cases hs
      | some v =>
        rw [hv] at hs
        simp only [Option.map_some, Option.some.injEq] at hs
        subst hs
        simp only [stepO, hF m, hsub r.2 m v hk hv, Option.map_some, Option.bind_some, put_eq, e2, hr, setD_comm tm o.dst p.dst r.1 v n3]
  rotate_left
  · obtain ⟨F, hF, hsub⟩ := evalLd (C := C) (cl := cl) (all := all) hld tm
    simp only [stepO, hF m] at hs
    cases hv : F m with
    | none => rw [hv] at hs; cases hs
    | some v =>
      rw [hv] at hs
      simp only [Option.map_some, Option.bind_some, put_eq, stepO, e1] at hs
      cases hp : evalI C cl all p ⟨tm, m⟩ with
      | none => rw [hp] at hs; cases hs
      | some r =>
        rw [hp] at hs
        simp only [Option.map_some, Option.some.injEq] at hs
        subst hs
        have hk := hap.elim (fun q => evalAp (C := C) (cl := cl) (all := all) q ⟨tm, m⟩ r hp) fun q => evalCw (C := C) (cl := cl) (all := all) hW q ⟨tm, m⟩ r hp
        simp only [stepO, hp, Option.map_some, Option.bind_some, put_eq, e2, hF, hsub m _ v hk hv, setD_comm tm o.dst p.dst v _ n3]
  obtain ⟨F, g, hF, hsub⟩ := evalLC (cl := cl) (all := all) hE hlc tm
  obtain ⟨Z, hZ⟩ := evalAl (C := C) (cl := cl) (all := all) hal tm
  simp only [stepO, hF m] at hs
  cases hv : F m with
  | none => rw [hv] at hs; cases hs
  | some v =>
    rw [hv] at hs
    simp only [Option.map_some, Option.bind_some, put_eq, stepO, e1, hZ] at hs
    cases Z with
    | none => cases hs
    | some z =>
      simp only [stepO, hZ m, Option.map_some, Option.bind_some, put_eq, e2]
      cases z with
      | none =>
        simp only [Option.map_some, Option.some.injEq] at hs
        subst hs
        simp only [hF, hv, Option.map_some, setD_comm tm o.dst p.dst v _ n3]
      | some cs =>
        simp only [Option.map_some, Option.some.injEq] at hs
        subst hs
        simp only [hF, hsub m _ v (sub_app m _) hv, Option.map_some, mark_app, mark_len', setD_comm tm o.dst p.dst v _ n3]
theorem bubble (hE : EnvOK C.E) (hW : ClW C cl) (i : Nat) : ∀ (pre post : List Nat) (s s' : St S), (∀ p, p ∈ pre → ∀ o q, all[p]? = some o → all[i]? = some q → compatD C all o q = true) → runL C cl all (pre ++ i :: post) s = some s' → runL C cl all (i :: (pre ++ post)) s = some s'
  | [], post, s, s', _, hr => hr
  | p :: pre, post, s, s', h, hr => by
    simp only [List.cons_append, runL] at hr
    obtain ⟨s1, h1, h2⟩ := Option.bind_eq_some_iff.1 hr
    have ih := bubble hE hW i pre post s1 s' (fun q hq => h q (by simp [hq])) h2
    simp only [runL] at ih
    obtain ⟨s2, h3, h4⟩ := Option.bind_eq_some_iff.1 ih
    have e : (stepI C cl all p s).bind (stepI C cl all i) = some s2 := by rw [h1]; exact h3
    have e2 : (stepI C cl all i s).bind (stepI C cl all p) = some s2 := by
      unfold stepI at e ⊢
      cases hp : all[p]? with
      | none =>
        rw [hp] at e
        simp only [Option.bind_some] at e
        cases hi : all[i]? with
        | none => rw [hi] at e; simpa using e
        | some o => rw [hi] at e; simp only at e ⊢; rw [e]; rfl
      | some o =>
        rw [hp] at e
        cases hi : all[i]? with
        | none =>
          rw [hi] at e
          simp only [Option.bind_some] at e ⊢
          cases hso : stepO C cl all o s with
          | none => rw [hso] at e; cases e
          | some s3 => rw [hso] at e; exact e
        | some q => rw [hi] at e; exact commuteD hE hW (h p (by simp) o q hp hi) s s2 e
    show (stepI C cl all i s).bind (runL C cl all (p :: (pre ++ post))) = some s'
    obtain ⟨s3, h5, h6⟩ := Option.bind_eq_some_iff.1 e2
    rw [h5]
    show (stepI C cl all p s3).bind (runL C cl all (pre ++ post)) = some s'
    rw [h6]
    exact h4
/-- What must be ahead. -/
def preds (o : Oper) : List Nat := o.after.toList.filterMap fun e => if Region.binds .any e then some e.on else none
def maskOf (acc : List Nat) : List Nat → Nat
  | [] => 0
  | e :: es => (2 ^ e ||| acc.getD e 0) ||| maskOf acc es
def befGo : List Oper → List Nat → List Nat
  | [], acc => acc
  | o :: r, acc => befGo r (acc ++ [maskOf acc (preds o)])
def chkFrom (C : Ctx S) (all : List Oper) (bef : List Nat) : Nat → List Oper → Bool
  | _, [] => true
  | i, o :: r => (preds o).all (fun e => decide (e < i)) && (List.range i).all (fun p => (bef.getD i 0).testBit p || (match all[p]? with | some q => compatD C all q o | none => true)) && chkFrom C all bef (i + 1) r
def chkRegion (C : Ctx S) (all : List Oper) : Bool := chkFrom C all (befGo all []) 0 all
theorem mask_bit (acc : List Nat) (p : Nat) : ∀ es, (maskOf acc es).testBit p = true → ∃ e, e ∈ es ∧ (e = p ∨ (acc.getD e 0).testBit p = true)
  | [], h => by simp [maskOf] at h
  | e :: es, h => by
    simp only [maskOf, Nat.testBit_or, Bool.or_eq_true] at h
    rcases h with (h | h) | h
    · rw [Nat.testBit_two_pow] at h
      exact ⟨e, by simp, .inl (by simpa using h)⟩
    · exact ⟨e, by simp, .inr h⟩
    · obtain ⟨e', h1, h2⟩ := mask_bit acc p es h
      exact ⟨e', by simp [h1], h2⟩
theorem getD_app (a b : List Nat) (i : Nat) (h : i < a.length) : (a ++ b).getD i 0 = a.getD i 0 := by simp [List.getD_eq_getElem?_getD, List.getElem?_append_left h]
theorem bef_get : ∀ (r : List Oper) (acc : List Nat) (i : Nat), i < acc.length → (befGo r acc).getD i 0 = acc.getD i 0
  | [], _, _, _ => rfl
  | o :: r, acc, i, h => by
    simp only [befGo]
    rw [bef_get r _ i (by simp; omega), getD_app _ _ _ h]
theorem bef_bit : ∀ (r : List Oper) (acc : List Nat) (i : Nat) (o : Oper), r[i]? = some o → (∀ e, e ∈ preds o → e < acc.length + i) → ∀ p, ((befGo r acc).getD (acc.length + i) 0).testBit p = true → ∃ e, e ∈ preds o ∧ (e = p ∨ ((befGo r acc).getD e 0).testBit p = true)
  | [], _, i, o, h, _, _, _ => by simp at h
  | o' :: r, acc, 0, o, h, hlt, p, hb => by
    simp at h
    subst h
    simp only [befGo] at hb ⊢
    rw [Nat.add_zero, bef_get r _ _ (by simp)] at hb
    simp only [List.getD_eq_getElem?_getD, List.getElem?_concat_length, Option.getD_some] at hb
    obtain ⟨e, h1, h2⟩ := mask_bit acc p _ hb
    refine ⟨e, h1, h2.imp id fun q => ?_⟩
    have := hlt e h1
    rw [bef_get r _ _ (by simp; omega), getD_app _ _ _ (by omega)]
    exact q
  | o' :: r, acc, i + 1, o, h, hlt, p, hb => by
    simp only [befGo] at hb ⊢
    have := bef_bit r (acc ++ [maskOf acc (preds o')]) i o (by simpa using h) (fun e he => by have := hlt e he; simp; omega) p (by simp only [List.length_append, List.length_cons, List.length_nil]; rw [show acc.length + (0 + 1) + i = acc.length + (i + 1) by omega]; exact hb)
    exact this
theorem chk_at (bef : List Nat) : ∀ (r : List Oper) (k : Nat), chkFrom C all bef k r = true → ∀ (i : Nat) (o : Oper), r[i]? = some o →
    (∀ e, e ∈ preds o → e < k + i) ∧ ∀ p, p < k + i → (bef.getD (k + i) 0).testBit p = true ∨ ∀ q, all[p]? = some q → compatD C all q o = true
  | [], _, _, i, o, h => by simp at h
  | o' :: r, k, h, i, o, ho => by
    simp only [chkFrom, Bool.and_eq_true] at h
    obtain ⟨⟨h1, h2⟩, h3⟩ := h
    cases i with
    | zero =>
      simp at ho
      subst ho
      refine ⟨fun e he => ?_, fun p hp => ?_⟩
      · rw [List.all_eq_true] at h1
        simpa using h1 e he
      · rw [List.all_eq_true] at h2
        have := h2 p (by simpa using hp)
        simp only [Bool.or_eq_true] at this
        refine this.imp id fun q r hr => ?_
        rw [hr] at q; exact q
    | succ i =>
      have := chk_at bef r (k + 1) h3 i o (by simpa using ho)
      rwa [show k + 1 + i = k + (i + 1) by omega] at this
end
end Go.Lv
namespace Go.Lv
set_option linter.all false
open Go Go.RowKit
variable {S : Nat → Type}
section
variable {C : Ctx S} {cl : Cl S} {all : List Oper}
/-- What is not listed yet. -/
def remOf (n : Nat) (listed : Array Bool) : List Nat := (List.range n).filter fun i => !listed.getD i true
theorem filter_split (n : Nat) (f : Nat → Bool) (i : Nat) (hi : i < n) (hf : f i = true) : ∃ pre post, (List.range n).filter f = pre ++ i :: post ∧ (∀ p, p ∈ pre → p < i ∧ f p = true) ∧ ∀ g : Nat → Bool, (∀ k, g k = (f k && !(k == i))) → (List.range n).filter g = pre ++ post := by
  refine ⟨(List.range i).filter f, ((List.range' (i + 1) (n - i - 1))).filter f, ?_, fun p hp => ?_, fun g hg => ?_⟩
  · have e : List.range n = List.range i ++ i :: List.range' (i + 1) (n - i - 1) := by
      rw [List.range_eq_range', List.range_eq_range', show n = i + (1 + (n - i - 1)) by omega, List.range'_append_1.symm]
      simp only [Nat.zero_add]
      rw [show i + (1 + (n - i - 1)) - i - 1 = n - i - 1 by omega]
      congr 1
      rw [show 1 + (n - i - 1) = (n - i - 1) + 1 by omega, List.range'_succ]
    rw [e, List.filter_append, List.filter_cons_of_pos hf]
  · rw [List.mem_filter, List.mem_range] at hp; exact hp
  · have e : List.range n = List.range i ++ i :: List.range' (i + 1) (n - i - 1) := by
      rw [List.range_eq_range', List.range_eq_range', show n = i + (1 + (n - i - 1)) by omega, List.range'_append_1.symm]
      simp only [Nat.zero_add]
      rw [show i + (1 + (n - i - 1)) - i - 1 = n - i - 1 by omega]
      congr 1
      rw [show 1 + (n - i - 1) = (n - i - 1) + 1 by omega, List.range'_succ]
    rw [e, List.filter_append, List.filter_cons_of_neg (by rw [hg]; simp)]
    congr 1
    · apply List.filter_congr
      intro k hk
      rw [List.mem_range] at hk
      rw [hg]
      have : (k == i) = false := by simp; omega
      simp [this]
    · apply List.filter_congr
      intro k hk
      rw [List.mem_range'_1] at hk
      rw [hg]
      have : (k == i) = false := by simp; omega
      simp [this]
/-- Whatever order is drawn: what is run comes to the same. -/
theorem sched_go (hE : EnvOK C.E) (hW : ClW C cl) (ops : Array Oper) (hchk : chkRegion C ops.toList = true) : ∀ (fuel t : Nat) (listed : Array Bool) (acc : List Nat), listed.size = ops.size → (remOf ops.size listed).length ≤ fuel →
    (∀ (k : Nat) (o : Oper), listed[k]? = some true → ops[k]? = some o → ∀ e, e ∈ preds o → listed[e]? = some true) →
    ∃ rest, Region.linearise.go .any ops fuel t listed acc = acc.reverse ++ rest ∧ ∀ s s' : St S, runL C cl ops.toList (remOf ops.size listed) s = some s' → runL C cl ops.toList rest s = some s'
  | 0, t, listed, acc, hs, hl, hd => by
    have : remOf ops.size listed = [] := List.eq_nil_of_length_eq_zero (by omega)
    exact ⟨[], by simp [Region.linearise.go], fun s s' h => by rw [this] at h; exact h⟩
  | fuel + 1, t, listed, acc, hs, hl, hd => by
    have hat := fun i o h => chk_at (C := C) (all := ops.toList) (befGo ops.toList []) ops.toList 0 hchk i o h
    simp only [Nat.zero_add] at hat
    simp only [Region.linearise.go]
    generalize hrs : (List.range ops.size).filter (fun i => !listed.getD i true && ((ops[i]?).map (·.after.all fun e => !Region.binds .any e || listed.getD e.on false)).getD false) = rs
    have mem : ∀ i, i ∈ rs ↔ i < ops.size ∧ listed.getD i true = false ∧ ∀ o, ops[i]? = some o → ∀ e, e ∈ preds o → listed[e]? = some true := by
      intro i
      rw [← hrs, List.mem_filter, List.mem_range]
      constructor
      · rintro ⟨h1, h2⟩
        simp only [Bool.and_eq_true, Bool.not_eq_true'] at h2
        refine ⟨h1, h2.1, fun o ho e he => ?_⟩
        have h3 := h2.2
        rw [ho] at h3
        simp only [Option.map_some, Option.getD_some, Array.all_eq_true] at h3
        simp only [preds, List.mem_filterMap] at he
        obtain ⟨ed, hed, he⟩ := he
        split at he
        · rename_i hb
          cases he
          obtain ⟨k, hk, rfl⟩ := List.getElem_of_mem hed
          have := h3 k (by simpa using hk)
          simp only [Array.getElem_toList] at hb
          simp only [Array.getElem_toList, hb, Bool.not_true, Bool.false_or] at this ⊢
          have hlt : (o.after[k]).on < listed.size := by
            by_cases q : (o.after[k]).on < listed.size
            · exact q
            · simp [Array.getD, q] at this
          rw [Array.getElem?_eq_getElem hlt]
          simp only [Array.getD, hlt, dif_pos] at this
          exact congrArg some this
        · cases he
      · rintro ⟨h1, h2, h3⟩
        refine ⟨h1, ?_⟩
        simp only [Bool.and_eq_true, Bool.not_eq_true']
        refine ⟨h2, ?_⟩
        rw [Array.getElem?_eq_getElem h1]
        simp only [Option.map_some, Option.getD_some, Array.all_eq_true]
        intro k hk
        cases hb : Region.binds .any (ops[i].after[k]) with
        | false => rfl
        | true =>
          have := h3 ops[i] (Array.getElem?_eq_getElem h1) (ops[i].after[k]).on (by
            simp only [preds, List.mem_filterMap]
            exact ⟨ops[i].after[k], by simp, by rw [if_pos hb]⟩)
          simp [Array.getD_eq_getD_getElem?, this]
    by_cases hrem : remOf ops.size listed = []
    · have : rs = [] := by
        apply List.eq_nil_iff_forall_not_mem.2
        intro i hi
        obtain ⟨h1, h2, _⟩ := (mem i).1 hi
        have : i ∈ remOf ops.size listed := by simp only [remOf, List.mem_filter, List.mem_range, h2]; exact ⟨h1, rfl⟩
        rw [hrem] at this; cases this
      rw [this]
      refine ⟨[], by simp, fun s s' h => by rw [hrem] at h; exact h⟩
    · -- the first that is not listed is ready
      have hne : rs ≠ [] := by
        obtain ⟨i0, hi0⟩ : ∃ i0, i0 ∈ remOf ops.size listed := by
          cases h : remOf ops.size listed with
          | nil => exact absurd h hrem
          | cons a l => exact ⟨a, by simp⟩
        have hmin : ∀ n, (∃ i, i ≤ n ∧ i ∈ remOf ops.size listed) → ∃ i, i ∈ remOf ops.size listed ∧ ∀ k, k < i → k ∉ remOf ops.size listed := by
          intro n
          induction n with
          | zero => rintro ⟨i, h1, h2⟩; exact ⟨i, h2, fun k hk => by omega⟩
          | succ n ih =>
            rintro ⟨i, h1, h2⟩
            by_cases q : ∃ j, j ≤ n ∧ j ∈ remOf ops.size listed
            · exact ih q
            · exact ⟨i, h2, fun k hk hkk => q ⟨k, by omega, hkk⟩⟩
        obtain ⟨i, h1, h2⟩ := hmin i0 ⟨i0, Nat.le_refl _, hi0⟩
        simp only [remOf, List.mem_filter, List.mem_range] at h1
        intro hnil
        have : i ∈ rs := (mem i).2 ⟨h1.1, by simpa using h1.2, fun o ho e he => by
          obtain ⟨q1, _⟩ := hat i o (by simpa using ho)
          have hei := q1 e he
          have := h2 e hei
          simp only [remOf, List.mem_filter, List.mem_range, not_and] at this
          have hl2 := this (by omega)
          have hes : e < listed.size := by omega
          simp only [Array.getD, hes, dif_pos] at hl2
          rw [Array.getElem?_eq_getElem hes]
          cases hb : listed[e] with
          | true => rfl
          | false =>
            exfalso
            apply hl2
            show (!listed[e]) = true
            rw [hb]; rfl⟩
        rw [hnil] at this; cases this
      have hlen : 0 < rs.length := List.length_pos_iff.2 hne
      have hmod : t % rs.length < rs.length := Nat.mod_lt _ hlen
      rw [List.getElem?_eq_getElem hmod]
      simp only
      generalize hi : rs[t % rs.length] = i
      have hir : i ∈ rs := hi ▸ List.getElem_mem hmod
      obtain ⟨i1, i2, i3⟩ := (mem i).1 hir
      obtain ⟨pre, post, r1, r2, r3⟩ := filter_split ops.size (fun k => !listed.getD k true) i i1 (by simp [i2])
      have his : i < listed.size := by omega
      have hrem' : remOf ops.size (listed.setIfInBounds i true) = pre ++ post := by
        refine r3 _ fun k => ?_
        by_cases q : k = i
        · subst q
          simp [Array.getD_eq_getD_getElem?, Array.getElem?_setIfInBounds, his]
        · have e1 : (k == i) = false := by simp [q]
          rw [e1, Array.getD_eq_getD_getElem?, Array.getD_eq_getD_getElem?, Array.getElem?_setIfInBounds, if_neg (fun r => q r.symm)]
          simp
      obtain ⟨rest, g1, g2⟩ := sched_go hE hW ops hchk fuel (t / rs.length) (listed.setIfInBounds i true) (i :: acc) (by simpa using hs) (by
        rw [hrem']
        have : (remOf ops.size listed).length = (pre ++ i :: post).length := by rw [remOf, r1]
        simp only [List.length_append, List.length_cons] at this ⊢
        omega) (fun k o hk ho e he => by
          rw [Array.getElem?_setIfInBounds] at hk ⊢
          by_cases q : i = e
          · rw [if_pos q, if_pos his]
          · rw [if_neg q]
            by_cases q' : i = k
            · subst q'; exact i3 o ho e he
            · rw [if_neg q'] at hk; exact hd k o hk ho e he)
      refine ⟨i :: rest, by rw [g1]; simp, fun s s' hrun => ?_⟩
      have hbub := bubble (C := C) (cl := cl) (all := ops.toList) hE hW i pre post s s' (fun p hp o q ho hq => by
        obtain ⟨p1, p2⟩ := r2 p hp
        obtain ⟨q1, q2⟩ := hat i q hq
        rcases q2 p p1 with hb | hcomp
        · exfalso
          -- all that must be ahead is listed
          have anc : ∀ (n i : Nat) (q : Oper), i ≤ n → ops[i]? = some q → (∀ e, e ∈ preds q → listed[e]? = some true) → ∀ p, ((befGo ops.toList []).getD i 0).testBit p = true → listed[p]? = some true := by
            intro n
            induction n with
            | zero =>
              intro i q hi hq hall p hp
              have : i = 0 := by omega
              subst this
              obtain ⟨e, e1, e2⟩ := bef_bit ops.toList [] 0 q (by simpa using hq) (fun e he => by have := (hat 0 q (by simpa using hq)).1 e he; simpa using this) p (by simpa using hp)
              have := (hat 0 q (by simpa using hq)).1 e e1
              omega
            | succ n ih =>
              intro i q hi hq hall p hp
              obtain ⟨e, e1, e2⟩ := bef_bit ops.toList [] i q (by simpa using hq) (fun e he => by have := (hat i q (by simpa using hq)).1 e he; simpa using this) p (by simpa using hp)
              have hei := (hat i q (by simpa using hq)).1 e e1
              rcases e2 with rfl | e2
              · exact hall e e1
              · have hes : e < ops.size := by have := (Array.getElem?_eq_some_iff.1 hq).1; omega
                exact ih e ops[e] (by omega) (by simp [hes]) (fun e' he' => hd e ops[e] (hall e e1) (by simp [hes]) e' he') p e2
          have hl := anc i i q (Nat.le_refl _) (by simpa using hq) (fun e he => i3 q (by simpa using hq) e he) p hb
          have hps := (Array.getElem?_eq_some_iff.1 hl).1
          simp only [Array.getD, hps, dif_pos] at p2
          rw [Array.getElem?_eq_getElem hps] at hl
          simp only [Option.some.injEq] at hl
          have : (!listed[p]) = true := p2
          rw [hl] at this; cases this
        · exact hcomp o ho)
      have e1 : remOf ops.size listed = pre ++ i :: post := by rw [remOf, r1]
      rw [e1] at hrun
      have h2 := hbub hrun
      simp only [runL] at h2 ⊢
      obtain ⟨s1, h3, h4⟩ := Option.bind_eq_some_iff.1 h2
      rw [h3]
      exact g2 s1 s' (by rw [hrem']; exact h4)
theorem sched_ok (hE : EnvOK C.E) (hW : ClW C cl) (ops : Array Oper) (hchk : chkRegion C ops.toList = true) (t : Nat) (s s' : St S) (h : runL C cl ops.toList (List.range ops.size) s = some s') : runL C cl ops.toList (Region.schedule true ops t) s = some s' := by
  have h0 : remOf ops.size (Array.replicate ops.size false) = List.range ops.size := by
    unfold remOf
    apply List.filter_eq_self.2
    intro i hi
    rw [List.mem_range] at hi
    simp [Array.getD, hi]
  obtain ⟨rest, h1, h2⟩ := sched_go (C := C) (cl := cl) hE hW ops hchk ops.size t (Array.replicate ops.size false) [] (by simp) (by rw [h0]; simp) (fun k o hk _ => by
    rw [Array.getElem?_replicate] at hk
    split at hk <;> cases hk)
  have : Region.schedule true ops t = rest := by
    simp only [Region.schedule, Bool.true_or, if_true, Region.linearise]
    rw [h1]; simp
  rw [this]
  exact h2 s s' (by rw [h0]; exact h)
theorem guard_inv {v : Option (V S)} {want b : Bool} (h : guardV v want = some b) : (∃ c : Bool, v = some (.cell .bool c) ∧ b = (c == want)) ∨ (v = some (.tup []) ∧ b = false) := by
  unfold guardV at h
  split at h
  · rename_i c; simp only [Option.some.injEq] at h; exact .inl ⟨c, rfl, h.symm⟩
  · simp only [Option.some.injEq] at h; exact .inr ⟨rfl, h.symm⟩
  · cases h
theorem List.set_same {α : Type} (l : List α) (i : Nat) (a : α) (h : l[i]? = some a) : l.set i a = l := by
  apply List.ext_getElem?
  intro j
  by_cases e : j = i
  · subst e; rw [List.getElem?_set_self (List.getElem?_eq_some_iff.1 h).1, h]
  · rw [List.getElem?_set_ne (fun q => e q.symm)]
/-- The region as it is told is the run in the text's order. -/
theorem semOps_run : ∀ (r : List Oper) (k : Nat) (s s' : St S), (∀ i, r[i]? = all[k + i]?) → (semOps C cl all r s).opt = some s' → runL C cl all (List.range' k r.length) s = some s'
  | [], k, s, s', _, h => by simpa [semOps, D.opt, runL] using h
  | o :: r, k, s, s', hall, h => by
    have ho : all[k]? = some o := by have := hall 0; simpa using this.symm
    have hr : ∀ i, r[i]? = all[k + 1 + i]? := fun i => by have := hall (i + 1); simp only [List.getElem?_cons_succ] at this; rw [this]; congr 1; omega
    rw [List.length_cons, List.range'_succ]
    simp only [runL, stepI, ho, stepO, evalI]
    simp only [semOps] at h
    cases hg : o.guard with
    | none =>
      rw [hg] at h
      simp only at h ⊢
      obtain ⟨p, hp, h⟩ := opt_bind_some h
      rw [hp]
      simp only [Option.map_some, Option.bind_some]
      exact semOps_run r (k + 1) _ s' hr h
    | some g =>
      obtain ⟨j, want⟩ := g
      rw [hg] at h
      simp only at h ⊢
      have hd' : dstOf all j = (all[j]?).bind (·.dst) := rfl
      rw [hd']
      cases hd : (all[j]?).bind (·.dst) with
      | none => rw [hd] at h; simp [D.opt] at h
      | some d =>
        rw [hd] at h
        simp only at h ⊢
        cases ht : s.tmps[d]? with
        | none => rw [ht] at h; simp [D.opt] at h
        | some v =>
          rw [ht] at h
          cases v with
          | cell ty x =>
            cases ty with
            | bool =>
              simp only at h
              have hset : ∀ b : Bool, (x : Bool) = b → ({ s with tmps := s.tmps.set d (.cell .bool b) } : St S) = s := by
                intro b hb
                have : s.tmps.set d (.cell .bool b) = s.tmps := List.set_same _ _ _ (by rw [ht]; exact congrArg (fun z : Bool => some (V.cell (S := S) .bool z)) hb)
                rw [this]
              have fin : ∀ b : Bool, (x : Bool) = b → (if want = b then (semOpX C cl s.mem (s.ev C) o).bind fun p => semOps C cl all r (s.put o.dst p) else semOps C cl all r (s.put o.dst (.tup [], s.mem)) : D (St S)).opt = some s' →
                  (Option.map (fun p => s.put o.dst p) (match guardV (some (.cell .bool x)) want with | some true => (semOpX C cl s.mem (s.ev C) o).opt | some false => some (.tup [], s.mem) | none => none)).bind (runL C cl all (List.range' (k + 1) r.length)) = some s' := by
                intro b hb h
                have hx : x = b := hb
                subst hx
                have gv : guardV (some (.cell .bool x : V S)) want = some (beqB x want) := rfl
                rw [gv]
                by_cases e : want = (x : Bool)
                · rw [if_pos e] at h
                  have : beqB x want = true := by
                    have : ∀ a b : Bool, b = a → beqB a b = true := by decide
                    exact this x want e
                  rw [this]
                  simp only
                  obtain ⟨p, hp, h⟩ := opt_bind_some h
                  rw [hp]
                  simp only [Option.map_some, Option.bind_some]
                  exact semOps_run r (k + 1) _ s' hr h
                · rw [if_neg e] at h
                  have : beqB x want = false := by
                    have : ∀ a b : Bool, b ≠ a → beqB a b = false := by decide
                    exact this x want e
                  rw [this]
                  simp only [Option.map_some, Option.bind_some]
                  exact semOps_run r (k + 1) _ s' hr h
              rcases split_some h with ⟨hb, h⟩ | ⟨hb, h⟩
              · rw [hset true hb] at h
                refine fin true hb ?_
                cases want <;> simpa using h
              · rw [hset false hb] at h
                refine fin false hb ?_
                cases want <;> simpa using h
            | _ => simp [D.opt] at h
          | tup vs =>
            cases vs with
            | nil =>
              simp only at h
              have gv : guardV (some (.tup [] : V S)) want = some false := rfl
              rw [gv]
              simp only [Option.map_some, Option.bind_some]
              exact semOps_run r (k + 1) _ s' hr h
            | cons _ _ => simp [D.opt] at h
          | _ => simp [D.opt] at h
variable {K : Gh} {w : World} {B : Nat}
theorem RelS.put {s : St S} {a : Act} {K' : Gh} {w' : World} {m' : Mem S} {v : Value} {x : V S} (h : RelS C K w B s a) (hx : Ext K w K' w') (hm : RelM C K' w' B m') (hv : RepV C.E K' w' v x) (d : Option Nat) : RelS C K' w' B (s.put d (x, m')) (a.put d v) := by
  cases d with
  | none => exact ⟨h.size, fun j c u p q => (h.tmps j c u p q).mono hx, h.defers, hm⟩
  | some d =>
    refine ⟨by simp [Act.put, St.put, h.size], fun j c u p q => ?_, h.defers, hm⟩
    simp only [Act.put, St.put] at p q
    by_cases e : j = d
    · subst e
      have hlt : j < s.tmps.length := by have := (List.getElem?_eq_some_iff.1 q).1; simpa using this
      rw [List.getElem?_set_self hlt] at q
      rw [Array.getElem?_setIfInBounds, if_pos rfl] at p
      rw [if_pos (by rw [h.size]; exact hlt)] at p
      cases p; cases q
      exact hv
    · rw [List.getElem?_set_ne (fun r => e r.symm)] at q
      rw [Array.getElem?_setIfInBounds, if_neg (fun r => e r.symm)] at p
      exact (h.tmps j c u p q).mono hx
/-- A region's run in any order that comes to an end. -/
theorem run_ok (hE : EnvOK C.E) (hT : TyOK C) (hS : ∀ f sp, C.spec f = some sp → SpecOK C f sp) (hC : ClOK C cl) (ops : Array Oper) {Q : Exit → Act → World → Prop} : ∀ (l : List Nat) (K : Gh) (w : World) (s s' : St S) (a : Act), RelS C K w B s a → runL C cl ops.toList l s = some s' →
    (∀ K' w' a', Ext K w K' w' → Below B w w' → RelS C K' w' B s' a' → Q .normal a' w') → wpOps C.P ops Q l a w
  | [], K, w, s, s', a, h, hr, hQ => by
    simp only [runL, Option.some.injEq] at hr
    subst hr
    exact hQ K w a (.refl K w) (Below.refl B w) h
  | i :: l, K, w, s, s', a, h, hr, hQ => by
    simp only [runL] at hr
    simp only [wpOps]
    cases hi : ops[i]? with
    | none =>
      have : ops.toList[i]? = none := by simpa using hi
      simp only [stepI, this, Option.bind_some] at hr
      exact run_ok hE hT hS hC ops l K w s s' a h hr hQ
    | some o =>
      have hi' : ops.toList[i]? = some o := by simpa using hi
      simp only [stepI, hi', stepO] at hr
      cases he : evalI C cl ops.toList o s with
      | none => rw [he] at hr; cases hr
      | some p =>
        rw [he] at hr
        simp only [Option.map_some, Option.bind_some] at hr
        obtain ⟨x, m'⟩ := p
        -- it runs
        have runs : (semOpX C cl s.mem (s.ev C) o).opt = some (x, m') → o.wp C.P a w (wpOps C.P ops Q l) Q := by
          intro hx
          have hres := semOp_ok hE hT hS hC h.mem (a := a) (ev := s.ev C) h.ev o (semOpX_some hx)
          unfold Oper.wp
          rcases hres with ⟨K', w', v, hv, e1, e2, e3, e4⟩ | ⟨f, args, hf, hcall⟩
          · have next : wpOps C.P ops Q l (a.put o.dst v) w' := run_ok hE hT hS hC ops l K' w' _ s' _ (h.put e1 e3 e4 o.dst) hr (fun K'' w'' a'' f1 f2 f3 => hQ K'' w'' a'' (e1.trans f1) (e2.trans f2) f3)
            rcases hv with hv | ⟨hv, rfl⟩
            · rw [hv]; exact next
            · rw [hv]; exact next
          · rw [hf]
            refine hcall.mono ?_
            rintro e w' ⟨v, K', rfl, e1, e2, e3, e4⟩
            exact run_ok hE hT hS hC ops l K' w' _ s' _ (h.put e1 e3 e4 o.dst) hr (fun K'' w'' a'' f1 f2 f3 => hQ K'' w'' a'' (e1.trans f1) (e2.trans f2) f3)
        unfold evalI at he
        cases hg : o.guard with
        | none =>
          rw [hg] at he
          simp only at he
          have hw : Region.wanted o (yielded ops a.tmps) = true := by simp [Region.wanted, hg]
          simp only [hw, if_true]
          exact .inl (runs he)
        | some g =>
          obtain ⟨j, want⟩ := g
          rw [hg] at he
          simp only at he
          cases hd : dstOf ops.toList j with
          | none => rw [hd] at he; cases he
          | some d =>
            rw [hd] at he
            simp only at he
            cases hgv : guardV s.tmps[d]? want with
            | none => rw [hgv] at he; cases he
            | some b =>
              rcases guard_inv hgv with ⟨c, hc, hb⟩ | ⟨hc, hb⟩
              · have hdl : d < s.tmps.length := (List.getElem?_eq_some_iff.1 hc).1
                have hda : d < a.tmps.size := by rw [h.size]; exact hdl
                have hval : a.tmps[d]? = some (.bool c) := by
                  have := h.tmps d a.tmps[d] (.cell .bool c) (by simp [hda]) hc
                  rw [Array.getElem?_eq_getElem hda, bool_of this]
                have hy : yielded ops a.tmps j = some c := by
                  have hd2 : (ops[j]?).bind (·.dst) = some d := by simpa [dstOf] using hd
                  simp only [yielded, hd2, Option.bind_some, hval]
                have hw : Region.wanted o (yielded ops a.tmps) = (c == want) := by
                  simp only [Region.wanted, hg, hy]
                  cases c <;> cases want <;> rfl
                show if Region.wanted o (yielded ops a.tmps) = true then _ else _
                rw [hw, ← hb]
                cases b with
                | true =>
                  rw [hgv] at he
                  simp only [if_true]
                  exact .inl (runs he)
                | false =>
                  rw [hgv] at he
                  simp only [Option.some.injEq, Prod.mk.injEq] at he
                  obtain ⟨rfl, rfl⟩ := he
                  simp only [Bool.false_eq_true, if_false]
                  exact run_ok hE hT hS hC ops l K w _ s' _ (h.put (.refl K w) h.mem (.tup #[] [] rfl fun j c v p => by simp at p) o.dst) hr hQ
              · have hdl : d < s.tmps.length := (List.getElem?_eq_some_iff.1 hc).1
                have hda : d < a.tmps.size := by rw [h.size]; exact hdl
                have hval : ∃ cs, a.tmps[d]? = some (.tuple cs) := by
                  have := h.tmps d a.tmps[d] (.tup []) (by simp [hda]) hc
                  rw [Array.getElem?_eq_getElem hda]
                  generalize a.tmps[d] = u at this
                  cases this with
                  | tup cs _ _ _ => exact ⟨cs, rfl⟩
                obtain ⟨cs, hval⟩ := hval
                have hy : yielded ops a.tmps j = none := by
                  have hd2 : (ops[j]?).bind (·.dst) = some d := by simpa [dstOf] using hd
                  simp only [yielded, hd2, Option.bind_some, hval]
                have hw : Region.wanted o (yielded ops a.tmps) = false := by
                  simp only [Region.wanted, hg, hy]
                  cases want <;> rfl
                show if Region.wanted o (yielded ops a.tmps) = true then _ else _
                rw [hw]
                subst hb
                rw [hgv] at he
                simp only [Option.some.injEq, Prod.mk.injEq] at he
                obtain ⟨rfl, rfl⟩ := he
                simp only [Bool.false_eq_true, if_false]
                exact run_ok hE hT hS hC ops l K w _ s' _ (h.put (.refl K w) h.mem (.tup #[] [] rfl fun j c v p => by simp at p) o.dst) hr hQ
end
end Go.Lv
namespace Go.Lv
set_option linter.all false
open Go Go.RowKit
variable {S : Nat → Type}
/-- What runs to its end. -/
def Runs (P : Program) (b : Frame) (cs : List Frame) (todo : List Item) (a : Act) (w : World) (Q : Act → World → Prop) : Prop :=
  ∃ a' w' t', Q a' w' ∧ Steps P (lone (b.at a todo) cs w) (lone { b.at a' t' with mode := .returning } cs w')
theorem Runs.head {P : Program} {b : Frame} {cs : List Frame} {todo todo' : List Item} {a a' : Act} {w w' : World} {Q : Act → World → Prop}
    (h : step P (lone (b.at a todo) cs w) = .next (lone (b.at a' todo') cs w')) (h' : Runs P b cs todo' a' w' Q) : Runs P b cs todo a w Q := by
  obtain ⟨a2, w2, t2, q, s⟩ := h'
  exact ⟨a2, w2, t2, q, .head h s⟩
section
variable (C : Ctx S)
def codeOk : Code → Bool
  | .seq a b => codeOk a && codeOk b
  | .cond _ a b => codeOk a && codeOk b
  | .block _ b => codeOk b
  | .scope b => codeOk b
  | .loop b => codeOk b
  | .region _ ops true => chkRegion (C.dr true) ops.toList
  | _ => true
def itemOk : Item → Bool
  | .code c => codeOk C c
  | .inLoop c => codeOk C c
  | _ => true
def itemsOk : List Item → Bool
  | [] => true
  | i :: k => itemOk C i && itemsOk k
/-- A function that may be gone into. -/
def fnOk (f : FuncId) : Bool := match C.P.funcs[f]? with
  | some fn => match fn.body with
    | some b => codeOk C b && !(fn.name == "runtime.NumGoroutine")
    | none => false
  | none => false
end
section
variable {C : Ctx S} {cl : Cl S} {B : Nat}
theorem exitTo_ok {id : Nat} : ∀ {k k' : List Item}, exitTo id k = some k' → itemsOk C k = true → itemsOk C k' = true
  | [], k', h, _ => by simp [exitTo] at h
  | i :: k, k', h, ho => by
    simp only [itemsOk, Bool.and_eq_true] at ho
    cases i with
    | inBlock j =>
      simp only [exitTo] at h
      split at h
      · cases h; exact ho.2
      · exact exitTo_ok h ho.2
    | _ => exact exitTo_ok (by simpa [exitTo] using h) ho.2
theorem RelM.fl {K : Gh} {w : World} {m : Mem S} {b : Bool} (h : RelM C K w B m) : RelM { C with fl := b } K w B m := ⟨h.n, h.ob, h.inj, h.new, h.glob, h.base, h.old⟩
theorem RelM.unfl {K : Gh} {w : World} {m : Mem S} {b : Bool} (h : RelM { C with fl := b } K w B m) : RelM C K w B m := ⟨h.n, h.ob, h.inj, h.new, h.glob, h.base, h.old⟩
theorem RelS.fl {K : Gh} {w : World} {s : St S} {a : Act} {b : Bool} (h : RelS C K w B s a) : RelS { C with fl := b } K w B s a := ⟨h.size, h.tmps, h.defers, h.mem.fl⟩
theorem RelS.unfl {K : Gh} {w : World} {s : St S} {a : Act} {b : Bool} (h : RelS { C with fl := b } K w B s a) : RelS C K w B s a := ⟨h.size, h.tmps, h.defers, h.mem.unfl⟩
theorem ClOK.fl {b : Bool} (h : ClOK C cl) : ClOK { C with fl := b } cl := ⟨h.1, fun f hf => by
  obtain ⟨h1, h2⟩ := h.2 f hf
  refine ⟨h1, fun K w B m args vs x m' hm hl hr hx => ?_⟩
  refine (h2 K w B m args vs x m' hm.unfl hl hr hx).mono ?_
  rintro e w' ⟨v, K', a1, a2, a3, a4, a5⟩
  exact ⟨v, K', a1, a2, a3, a4.fl, a5⟩⟩
theorem dr_is (C : Ctx S) (d : Bool) : ∃ b, C.dr d = { C with fl := b } := by
  unfold Ctx.dr
  cases (d && C.flat) with
  | false => exact ⟨C.fl, rfl⟩
  | true => exact ⟨true, rfl⟩
/-- Where a call stands. -/
def At (C : Ctx S) (B : Nat) (K0 : Gh) (w0 : World) (s : St S) (a : Act) (w : World) : Prop := ∃ K, Ext K0 w0 K w ∧ Below B w0 w ∧ RelS C K w B s a
theorem ex_ok (hE : EnvOK C.E) (hT : TyOK C) (hS : ∀ f sp, C.spec f = some sp → SpecOK C f sp) (hC : ClOK C cl) (hM : C.P.follows .mixedOrders = true) {K0 : Gh} {w0 : World} {b : Frame} {cs : List Frame}
    {R : Type} {L : Lp S R} {fin : St S → D R} {T : R → Act → World → Prop}
    (hL : ∀ c k s r a w, itemsOk C (.inLoop c :: k) = true → At C B K0 w0 s a w → (L (.inLoop c :: k) s).opt = some r → Runs C.P b cs (.code c :: .inLoop c :: k) a w (T r))
    (hK : ∀ id ops dr k s r a w, C.hk id = true → itemsOk C (.code (.region id ops dr) :: k) = true → At C B K0 w0 s a w → (L (.code (.region id ops dr) :: k) s).opt = some r → Runs C.P b cs (.code (.region id ops dr) :: k) a w (T r))
    (hF : ∀ s r a w, At C B K0 w0 s a w → (fin s).opt = some r → T r a w) :
    ∀ (n : Nat) (todo : List Item) (s : St S) (r : R) (a : Act) (w : World), itemsOk C todo = true → At C B K0 w0 s a w → (ex C cl L fin n todo s).opt = some r → Runs C.P b cs todo a w (T r)
  | 0, todo, s, r, a, w, _, _, h => by simp [ex, D.opt] at h
  | n + 1, todo, s, r, a, w, hk, hA, h => by
    have ih := ex_ok hE hT hS hC hM hL hK hF n
    cases todo with
    | nil =>
      simp only [ex] at h
      exact ⟨a, w, [], hF s r a w hA h, .one step_end⟩
    | cons it k =>
      have hk' := hk
      simp only [itemsOk, Bool.and_eq_true] at hk
      obtain ⟨hi, hk⟩ := hk
      cases it with
      | inBlock id => simp only [ex] at h; exact .head step_inBlock (ih k s r a w hk hA h)
      | inScope c => simp only [ex] at h; exact .head step_inScope (ih k s r a w hk hA h)
      | inLoop c => simp only [ex] at h; exact .head step_inLoop (hL c k s r a w hk' hA h)
      | code c =>
        cases c with
        | ret => simp only [ex] at h; exact ⟨a, w, _, hF s r a w hA h, .one step_ret⟩
        | skip => simp only [ex] at h; exact .head step_skip (ih k s r a w hk hA h)
        | label l => simp only [ex] at h; exact .head step_label (ih k s r a w hk hA h)
        | seq x y =>
          simp only [ex] at h
          simp only [itemOk, codeOk, Bool.and_eq_true] at hi
          exact .head step_seq (ih _ s r a w (by simp [itemsOk, itemOk, hi, hk]) hA h)
        | block id x =>
          simp only [ex] at h
          simp only [itemOk, codeOk] at hi
          exact .head step_block (ih _ s r a w (by simp [itemsOk, itemOk, hi, hk]) hA h)
        | scope x =>
          simp only [ex] at h
          simp only [itemOk, codeOk] at hi
          exact .head step_scope (ih _ s r a w (by simp [itemsOk, itemOk, hi, hk]) hA h)
        | loop x =>
          simp only [ex] at h
          simp only [itemOk, codeOk] at hi
          exact .head step_loop (hL x k s r a w (by simp [itemsOk, itemOk, hi, hk]) hA h)
        | exit id =>
          simp only [ex] at h
          cases he : exitTo id k with
          | none => rw [he] at h; simp [D.opt] at h
          | some k' =>
            rw [he] at h
            exact .head (step_exit he) (ih k' s r a w (exitTo_ok he hk) hA h)
        | cond c x y =>
          simp only [ex] at h
          simp only [itemOk, codeOk, Bool.and_eq_true] at hi
          obtain ⟨K, x1, x2, x3⟩ := hA
          have hc := x3.ev c
          split at h
          · rename_i bb hb
            rw [hb] at hc
            have hcv : a.eval c = .bool bb := bool_of hc
            rcases split_some h with ⟨hbb, h⟩ | ⟨hbb, h⟩
            · have hcv' : a.eval c = .bool true := hcv.trans (congrArg Value.bool hbb)
              exact .head (step_cond (t := true) hcv') (ih (.code x :: k) s r a w (by simp [itemsOk, itemOk, hi, hk]) ⟨K, x1, x2, x3⟩ h)
            · have hcv' : a.eval c = .bool false := hcv.trans (congrArg Value.bool hbb)
              exact .head (step_cond (t := false) hcv') (ih (.code y :: k) s r a w (by simp [itemsOk, itemOk, hi, hk]) ⟨K, x1, x2, x3⟩ h)
          · simp [D.opt] at h
        | region id ops draw =>
          simp only [ex] at h
          cases hhk : C.hk id with
          | true =>
          rw [hhk] at h
          exact hK id ops draw k s r a w hhk hk' hA h
          | false =>
          rw [hhk] at h
          simp only [cond_false] at h
          obtain ⟨s', hs', h⟩ := opt_bind_some h
          obtain ⟨bb, hD⟩ := dr_is C draw
          rw [hD] at hs'
          have hrun := semOps_run (C := { C with fl := bb }) (cl := cl) (all := ops.toList) ops.toList 0 s s' (fun i => by simp) hs'
          obtain ⟨K, x1, x2, x3⟩ := hA
          have hrange : List.range' 0 ops.toList.length = List.range ops.size := by rw [List.range_eq_range']; simp
          rw [hrange] at hrun
          have go : ∀ (l : List Nat) (w1 : World) (K1 : Gh), Ext K0 w0 K1 w1 → Below B w0 w1 → RelS C K1 w1 B s a → runL { C with fl := bb } cl ops.toList l s = some s' → Runs C.P b cs (.inRegion ops l :: k) a w1 (T r) := by
            intro l w1 K1 y1 y2 y3 hl
            have := run_ok (Q := fun e a' w' => e = .normal ∧ At C B K0 w0 s' a' w') (C := { C with fl := bb }) (cl := cl) hE hT (fun f sp q => hS f sp q) hC.fl ops l K1 w1 s s' a y3.fl hl (fun K' w' a' z1 z2 z3 => ⟨rfl, K', y1.trans z1, y2.trans z2, z3.unfl⟩)
            obtain ⟨e, a', w', ⟨rfl, hA'⟩, harr⟩ := wp_ops l a w1 this b k cs
            obtain ⟨a2, w2, t2, q, st⟩ := ih k s' r a' w' hk hA' h
            exact ⟨a2, w2, t2, q, Steps.trans harr st⟩
          cases draw with
          | false => exact .head step_region (go _ w K x1 x2 x3 hrun)
          | true =>
            simp only [itemOk, codeOk] at hi
            rw [hD] at hi
            refine .head step_region_draw (go _ _ K (x1.trans ?_) (x2.trans ?_) ?_ ?_)
            · exact ⟨Nat.le_refl _, fun _ _ => ⟨Nat.le_refl _, fun _ => ⟨rfl, rfl, rfl⟩⟩, fun _ => Nat.le_refl _, fun _ _ _ => rfl, fun _ _ _ h => keeps.of h, .inr rfl⟩
            · exact ⟨rfl, rfl, rfl, Nat.le_refl _, fun _ _ => rfl⟩
            · have hx : Ext K w K { w with drawn := w.drawn + 1 } := ⟨Nat.le_refl _, fun _ _ => ⟨Nat.le_refl _, fun _ => ⟨rfl, rfl, rfl⟩⟩, fun _ => Nat.le_refl _, fun _ _ _ => rfl, fun _ _ _ h => keeps.of h, .inr rfl⟩
              exact ⟨x3.size, fun j c v p q => (x3.tmps j c v p q).mono hx, x3.defers, x3.mem.frame hx rfl (fun _ _ => ⟨rfl, rfl, rfl, rfl, rfl⟩) (fun _ _ _ => rfl) (fun _ _ _ => rfl) (fun b' hb => x3.mem.new b' hb) (Nat.le_refl _) (fun _ _ => rfl)⟩
            · rw [hM]; exact sched_ok (C := { C with fl := bb }) hE hC.fl.1 ops hi _ _ _ hrun
        | _ => simp [ex, D.opt] at h
      | _ => simp [ex, D.opt] at h
/-- A call's start. -/
theorem RelS.start {K : Gh} {w : World} {m : Mem S} (h : RelM C K w B m) (fn : Func) {args : List (V S)} {vs : Array Value} (hl : vs.size = args.length)
    (hr : ∀ (j : Nat) (v : Value) (y : V S), vs[j]? = some v → args[j]? = some y → RepV C.E K w v y) :
    RelS C K w B (st0 fn args m) { tmps := vs ++ Array.replicate (fn.ntmps - vs.size) undef, defers := [] } := by
  refine ⟨by simp [st0, hl], fun j c v p q => ?_, rfl, h⟩
  simp only [st0] at p q
  by_cases e : j < vs.size
  · rw [Array.getElem?_append_left e] at p
    rw [List.getElem?_append_left (by omega)] at q
    exact hr j c v p q
  · rw [List.getElem?_append_right (by omega)] at q
    rw [List.getElem?_replicate] at q
    split at q
    · cases q; exact .undef _
    · cases q
def resF (tmps : Array Value) : ResultVar → Sem Value
  | .tmp t => pure (tmps.getD t undef)
  | .cell a t => do loadVar t (← asAddr (tmps.getD a undef))
theorem resF_run {K : Gh} {w : World} {s : St S} {a : Act} (h : RelS C K w B s a) {y : ResultVar} {x : V S} (hx : resOne C s y = some x) : ∃ v, (resF a.tmps y).run C.P w = .ok v w ∧ RepV C.E K w v x := by
  cases y with
  | tmp t =>
    simp only [resOne, Option.some.injEq] at hx
    subst hx
    exact ⟨_, by simp only [resF, Sem.run_pure], RepV.getD h.size h.tmps t⟩
  | cell q t =>
    have hq : RepV C.E K w (a.tmps.getD q undef) (s.tmps.getD q .undef) := RepV.getD h.size h.tmps q
    simp only [resOne] at hx
    split at hx
    · rename_i id off hp
      rw [hp] at hq
      split at hx
      · rename_i cs fz hm
        obtain ⟨hg, f, hc, hr⟩ := box_cells h.mem hm
        simp only [resF]
        generalize a.tmps.getD q undef = u at hq ⊢
        cases hq with
        | ptr _ _ _ hn hpp hh =>
          obtain ⟨r, h1, h2⟩ := load_rep hc hr hx
          rw [Nat.zero_add] at h1
          refine ⟨r, ?_, h2⟩
          rw [hh hg]
          have e : (do loadVar t (← asAddr (.pointer (some ⟨K.ι id, off, none⟩))) : Sem Value) = Instr.loadAt t (.pointer (some ⟨K.ι id, off, none⟩)) := by
            simp [asAddr, Instr.loadAt, Instr.sureAddr]
          rw [e]
          exact h1
      · cases hx
    · cases hx
theorem resF_all {K : Gh} {w : World} {s : St S} {a : Act} (h : RelS C K w B s a) : ∀ (l : List ResultVar) (ys : List (V S)), allM (l.map (resOne C s)) = some ys → ∃ vs : List Value, vs.length = ys.length ∧ (l.mapM (resF a.tmps)).run C.P w = .ok vs w ∧ ∀ (j : Nat) (v : Value) (y : V S), vs[j]? = some v → ys[j]? = some y → RepV C.E K w v y
  | [], ys, hy => by
    simp only [List.map_nil, allM, Option.some.injEq] at hy
    subst hy
    exact ⟨[], rfl, by simp only [List.mapM_nil, Sem.run_pure], fun j v y hv => by simp at hv⟩
  | r :: l, ys, hy => by
    simp only [List.map_cons] at hy
    cases h1 : resOne C s r with
    | none => rw [h1] at hy; cases hy
    | some x =>
      rw [h1] at hy
      simp only [allM] at hy
      cases h2 : allM (l.map (resOne C s)) with
      | none => rw [h2] at hy; cases hy
      | some zs =>
        rw [h2] at hy
        simp only [Option.map_some, Option.some.injEq] at hy
        subst hy
        obtain ⟨v, v1, v2⟩ := resF_run h h1
        obtain ⟨vs, q1, q2, q3⟩ := resF_all h l zs h2
        refine ⟨v :: vs, by simp [q1], ?_, fun j u y hu hy => ?_⟩
        · rw [List.mapM_cons]
          simp only [Sem.run_bind, v1, Result.andThen_ok, q2, Sem.run_pure]
        · cases j with
          | zero => simp only [List.getElem?_cons_zero, Option.some.injEq] at hu hy; subst hu hy; exact v2
          | succ j => exact q3 j u y hu hy
theorem results_run {K : Gh} {w : World} {s : St S} {a : Act} (h : RelS C K w B s a) (fn : Func) {x : V S} (hx : resV C fn.results.toList s = some x) :
    ∃ v, (results fn a.tmps).run C.P w = .ok v w ∧ RepV C.E K w v x := by
  have e : results fn a.tmps = (fn.results.mapM (resF a.tmps)) >>= fun vs => pure (if h : vs.size = 1 then vs[0] else .tuple vs) := rfl
  have main : ∀ (ys : List (V S)), allM (fn.results.toList.map (resOne C s)) = some ys → ∃ vs : List Value, vs.length = ys.length ∧ (results fn a.tmps).run C.P w = .ok (if h : vs.toArray.size = 1 then vs.toArray[0] else .tuple vs.toArray) w ∧ ∀ (j : Nat) (v : Value) (y : V S), vs[j]? = some v → ys[j]? = some y → RepV C.E K w v y := by
    intro ys hy
    obtain ⟨vs, q1, q2, q3⟩ := resF_all h _ ys hy
    refine ⟨vs, q1, ?_, q3⟩
    rw [e, Array.mapM_eq_mapM_toList]
    simp only [Sem.run_bind, map_eq_pure_bind, q2, Result.andThen_ok, Sem.run_pure]
  unfold resV at hx
  split at hx
  · rename_i v0 hv
    simp only [Option.some.injEq] at hx
    subst hx
    obtain ⟨vs, q1, q2, q3⟩ := main [v0] (by rw [hv]; rfl)
    match vs, q1, q2, q3 with
    | [u], _, q2, q3 =>
      refine ⟨_, q2, ?_⟩
      have : (if h : [u].toArray.size = 1 then [u].toArray[0] else Value.tuple [u].toArray) = u := rfl
      rw [this]
      exact q3 0 u v0 rfl rfl
  · rename_i hne
    cases hall : allM (fn.results.toList.map (resOne C s)) with
    | none => rw [hall] at hx; cases hx
    | some ys =>
      rw [hall] at hx
      simp only [Option.map_some, Option.some.injEq] at hx
      subst hx
      obtain ⟨vs, q1, q2, q3⟩ := main ys hall
      have hn : vs.toArray.size ≠ 1 := by
        intro h1
        have h1' : ys.length = 1 := by rw [← q1]; simpa using h1
        match ys, h1' with
        | [y], _ =>
          have inv : ∀ l : List (Option (V S)), allM l = some [y] → l = [some y] := by
            intro l hl
            match l, hl with
            | [], hl => simp [allM] at hl
            | none :: _, hl => simp [allM] at hl
            | some z :: r, hl =>
              simp only [allM] at hl
              cases hr : allM r with
              | none => rw [hr] at hl; cases hl
              | some q =>
                rw [hr] at hl
                simp only [Option.map_some, Option.some.injEq, List.cons.injEq] at hl
                obtain ⟨rfl, rfl⟩ := hl
                match r, hr with
                | [], _ => rfl
                | none :: _, hr => simp [allM] at hr
                | some u :: r', hr =>
                  simp only [allM] at hr
                  cases hq : allM r' <;> rw [hq] at hr <;> simp at hr
          exact hne _ (inv _ hall)
      refine ⟨_, q2, ?_⟩
      rw [dif_neg hn]
      refine .tup _ _ (by simpa using q1) fun j c y p q => q3 j c y (by simpa using p) q
theorem calls_of_runs {P : Program} {f : FuncId} {fn : Func} {c : Code} {args : Array Value} {w : World} {R : Ending → World → Prop} (hf : P.funcs[f]? = some fn) (hb : fn.body = some c)
    (h : ∀ b cs, Runs P b cs [.code c] { tmps := args ++ Array.replicate (fn.ntmps - args.size) undef, defers := [] } w fun a w' => a.defers = [] ∧ ∃ v, (results fn a.tmps).run P w' = .ok v w' ∧ R (.returned v) w') :
    Calls P f args w R := by
  intro cs
  let b : Frame := { (default : Frame) with fn := f, kind := .normal }
  have henter : Frame.enter P f args .normal = b.at { tmps := args ++ Array.replicate (fn.ntmps - args.size) undef, defers := [] } [.code c] := by
    simp [Frame.enter, Frame.at, hf, hb, b]
  obtain ⟨a', w', t', ⟨hd, v, hr, hR⟩, hs⟩ := h b cs
  rw [← henter] at hs
  exact ⟨.returned v, w', _, hR, hs, rfl, rfl, hd, rfl, fn, hf, hr⟩
/-- What is gone into. -/
theorem clD_ok (hE : EnvOK C.E) (hT : TyOK C) (hS : ∀ f sp, C.spec f = some sp → SpecOK C f sp) (hM : C.P.follows .mixedOrders = true) (hI : ∀ f, C.inl f = true → fnOk C f = true) (d : Nat) (hw : ∀ f, C.wf f = false := by exact fun _ => rfl) : ClOK C (clD C d) := match d with
  | 0 => ⟨ClW.none hw, fun f hf => by
    refine ⟨enters hI f hf, fun K w B m args vs x m' _ _ _ h => by simp [clD, D.opt] at h⟩⟩
  | d + 1 => ⟨ClW.none hw, fun f hf => by
    refine ⟨enters hI f hf, fun K w B m args vs x m' hm hl hr h => ?_⟩
    have hok := hI f hf
    unfold fnOk at hok
    simp only [clD] at h
    cases hfn : C.P.funcs[f]? with
    | none => rw [hfn] at hok; cases hok
    | some fn =>
      rw [hfn] at hok h
      simp only at hok h
      cases hb : fn.body with
      | none => rw [hb] at hok; cases hok
      | some c =>
        rw [hb] at hok h
        simp only [Bool.and_eq_true] at hok h
        obtain ⟨hc, hname⟩ := hok
        refine calls_of_runs hfn hb fun b cs => ?_
        have := ex_ok (B := B) (K0 := K) (w0 := w) (b := b) (cs := cs) (L := fun _ _ => .fail) (fin := fun s => (D.ofOpt (resV C fn.results.toList s)).bind fun v => .ret (v, s.mem))
          (T := fun r a w' => a.defers = [] ∧ ∃ v, (results fn a.tmps).run C.P w' = .ok v w' ∧ ∃ K', Ext K w K' w' ∧ Below B w w' ∧ RelM C K' w' B r.2 ∧ RepV C.E K' w' v r.1)
          hE hT hS (clD_ok hE hT hS hM hI d hw) hM (fun c k s r a w _ _ hh => by simp [D.opt] at hh) (fun id ops dr k s r a w _ _ _ hh => by simp [D.opt] at hh)
          (fun s r a w' ⟨K', x1, x2, x3⟩ hh => by
            obtain ⟨y, hy, hh⟩ := opt_ofOpt_bind hh
            simp only [D.opt, Option.some.injEq] at hh
            subst hh
            obtain ⟨v, v1, v2⟩ := results_run x3 fn hy
            exact ⟨x3.defers, v, v1, K', x1, x2, x3.mem, v2⟩)
          fuel [.code c] (st0 fn args m) (x, m') _ w (by simp [itemsOk, itemOk, hc]) ⟨K, .refl K w, Below.refl B w, RelS.start hm fn hl hr⟩ h
        obtain ⟨a', w', t', ⟨hd, v, v1, K', q1, q2, q3, q4⟩, st⟩ := this
        exact ⟨a', w', t', ⟨hd, v, v1, v, K', rfl, q1, q2, q3, q4⟩, st⟩⟩
where
  enters (hI : ∀ f, C.inl f = true → fnOk C f = true) (f : FuncId) (hf : C.inl f = true) : Enters C.P f := by
    have hok := hI f hf
    unfold fnOk at hok
    cases hfn : C.P.funcs[f]? with
    | none => rw [hfn] at hok; cases hok
    | some fn =>
      rw [hfn] at hok
      simp only at hok
      cases hb : fn.body with
      | none => rw [hb] at hok; cases hok
      | some c =>
        rw [hb] at hok
        simp only [Bool.and_eq_true] at hok
        exact ⟨fn, hfn, by rw [hb]; rfl, by simpa using hok.2⟩
end
end Go.Lv
namespace Go.Lv
set_option linter.all false
open Go Go.RowKit
variable {S : Nat → Type}
section
variable (C : Ctx S) (cl : Cl S) {R : Type}
def canonL (hd : List Item → St S → Option (St S)) (L : Lp S R) : Lp S R := fun todo s => (D.ofOpt (hd todo s)).bind fun s' => L todo s'
def Lfix (hd : List Item → St S → Option (St S)) (fin : St S → D R) : Nat → Lp S R
  | 0 => fun _ _ => .fail
  | n + 1 => fun todo s => match todo with
    | .inLoop c :: k => ex C cl (canonL hd (Lfix hd fin n)) fin fuel (.code c :: .inLoop c :: k) s
    | _ => .fail
def finR (fn : Func) (ts : List Ty) (de : List (Cell S) → Option R) : St S → D R := fun s => (finT C fn ts s).bind fun cs => D.ofOpt (de cs)
/-- A function's run, its loops by L. -/
def runW (L : (St S → D R) → Lp S R) (f : FuncId) (ts : List Ty) (de : List (Cell S) → Option R) (args : List (V S)) : D R :=
  match body? C f with
  | some (fn, b) => ex C cl (L (finR C fn ts de)) (finR C fn ts de) fuel [.code b] (st0 fn args [])
  | none => .fail
def runF (hd : List Item → St S → Option (St S)) (f : FuncId) (ts : List Ty) (de : List (Cell S) → Option R) (n : Nat) (args : List (V S)) : D R :=
  runW C cl (fun fin => canonL hd (Lfix C cl hd fin n)) f ts de args
end
section
variable {C : Ctx S} {cl : Cl S} {B : Nat}
/-- A head's turn says the same of the world. -/
def HdOK (C : Ctx S) (hd : List Item → St S → Option (St S)) : Prop := ∀ (B : Nat) (K0 : Gh) (w0 : World) (todo : List Item) (s s' : St S) (a : Act) (w : World), K0.n = 0 → At C B K0 w0 s a w → hd todo s = some s' → At C B K0 w0 s' a w
theorem HdOK.id : HdOK C fun _ s => some s := fun _ _ _ _ s s' a w _ h e => by cases e; exact h
section
variable (hE : EnvOK C.E) (hT : TyOK C) (hS : ∀ f sp, C.spec f = some sp → SpecOK C f sp) (hC : ClOK C cl) (hM : C.P.follows .mixedOrders = true) {K0 : Gh} (hK0 : K0.n = 0) {w0 : World} {b : Frame} {cs : List Frame}
    {R : Type} {fin : St S → D R} {T : R → Act → World → Prop} {hd : List Item → St S → Option (St S)} (hH : HdOK C hd)
    (hF : ∀ s r a w, At C B K0 w0 s a w → (fin s).opt = some r → T r a w)
include hE hT hS hC hM hK0 hH hF
theorem canon_ok {L : Lp S R} (hL : ∀ c k s r a w, itemsOk C (.inLoop c :: k) = true → At C B K0 w0 s a w → (L (.inLoop c :: k) s).opt = some r → Runs C.P b cs (.code c :: .inLoop c :: k) a w (T r)) :
    ∀ c k s r a w, itemsOk C (.inLoop c :: k) = true → At C B K0 w0 s a w → (canonL hd L (.inLoop c :: k) s).opt = some r → Runs C.P b cs (.code c :: .inLoop c :: k) a w (T r) := by
  intro c k s r a w hk hA h
  obtain ⟨s', hs', h⟩ := opt_ofOpt_bind h
  exact hL c k s' r a w hk (hH _ _ _ _ _ _ _ _ hK0 hA hs') h

omit hE hT hS hC hM hK0 hH hF in
theorem no_hook (n : Nat) {id : Nat} {ops : Array Oper} {dr : Bool} {k : List Item} {s : St S} {r : R} (h : (canonL hd (Lfix C cl hd fin n) (.code (.region id ops dr) :: k) s).opt = some r) : False := by
  obtain ⟨s', _, h⟩ := opt_ofOpt_bind h
  cases n <;> simp [Lfix, D.opt] at h
theorem fix_ok : ∀ (n : Nat) (c : Code) (k : List Item) (s : St S) (r : R) (a : Act) (w : World), itemsOk C (.inLoop c :: k) = true → At C B K0 w0 s a w → (Lfix C cl hd fin n (.inLoop c :: k) s).opt = some r → Runs C.P b cs (.code c :: .inLoop c :: k) a w (T r)
  | 0, c, k, s, r, a, w, _, _, h => by simp [Lfix, D.opt] at h
  | n + 1, c, k, s, r, a, w, hk, hA, h => by
    simp only [Lfix] at h
    refine ex_ok hE hT hS hC hM (canon_ok hE hT hS hC hM hK0 hH hF (fix_ok n)) (fun id ops dr k s r a w _ _ _ hh => (no_hook n hh).elim) hF fuel _ s r a w ?_ hA h
    simp only [itemsOk, itemOk, Bool.and_eq_true] at hk ⊢
    exact ⟨hk.1, hk.1, hk.2⟩
end
theorem dec_marks (m : Mem S) (ids : List Nat) (t : Ty) (x : V S) : dec C.E (mark m ids) t x = dec C.E m t x := dec_like (mark_like m ids) t x
theorem decAll_marks (m : Mem S) (ids : List Nat) : ∀ (ts : List Ty) (xs : List (V S)), decAll C.E (mark m ids) ts xs = decAll C.E m ts xs
  | [], xs => by cases xs <;> rfl
  | t :: ts, [] => rfl
  | t :: ts, x :: xs => by simp only [decAll, dec_marks, decAll_marks m ids ts xs]
/-- The answer as it is told. -/
theorem finT_rep (hE : EnvOK C.E) {K : Gh} {w : World} {s : St S} {a : Act} (h : RelS C K w B s a) (fn : Func) {ts : List Ty} {cs : List (Cell S)} (hx : (finT C fn ts s).opt = some cs) :
    ∃ v K', (results fn a.tmps).run C.P w = .ok v w ∧ Ext K w K' w ∧ (∃ m, RelM C K' w B m) ∧ RepV C.E (gh0 K'.σ) w v (encAll C.E cs) := by
  unfold finT at hx
  obtain ⟨x, h1, hx⟩ := opt_ofOpt_bind hx
  obtain ⟨v, h2, h3⟩ := results_run h fn h1
  obtain ⟨K', x1, s1, r1, f1⟩ := freeze h.mem x.owns
  split at hx
  ·
    obtain ⟨y, hy, hx⟩ := opt_ofOpt_bind hx
    simp only [D.opt, Option.some.injEq] at hx
    subst hx
    exact ⟨v, K', h2, x1, ⟨_, r1⟩, enc_gh0 (dec_rep hE r1 (h3.mono x1) ((dec_marks s.mem x.owns _ x).trans hy) f1)⟩
  · rename_i vs hne
    have hx' : decAll C.E s.mem ts vs = some cs := by
      cases hd : decAll C.E s.mem ts vs with
      | none => rw [hd] at hx; simp [D.ofOpt, D.opt] at hx
      | some q => rw [hd] at hx; simp only [D.ofOpt, D.opt, Option.some.injEq] at hx; rw [hx]
    cases h3 with
    | tup us _ hs hj =>
      obtain ⟨K2, x2, s2, r2, f2⟩ := freeze h.mem (vs.flatMap V.owns)
      obtain ⟨a1, a2⟩ := decAll_rep hE r2 ts vs cs us.toList (by simpa using hs) (fun j v y p q => (hj j v y (by simpa using p) q).mono x2) f2 ((decAll_marks s.mem _ ts vs).trans hx')
      refine ⟨_, K2, h2, x2, ⟨_, r2⟩, ?_⟩
      have hlen : ∀ (ts : List Ty) (vs : List (V S)) (cs : List (Cell S)), decAll C.E s.mem ts vs = some cs → ts.length = cs.length := by
        intro ts
        induction ts with
        | nil => intro vs cs h; cases vs <;> simp [decAll] at h; simp [h]
        | cons t ts ih =>
          intro vs cs h
          cases vs with
          | nil => simp [decAll] at h
          | cons v vs =>
            simp only [decAll] at h
            cases hd : dec C.E s.mem t v with
            | none => rw [hd] at h; cases h
            | some y =>
              rw [hd] at h
              simp only [Option.bind_some] at h
              cases hd2 : decAll C.E s.mem ts vs with
              | none => rw [hd2] at h; cases h
              | some q =>
                rw [hd2] at h
                simp only [Option.bind_some, Option.some.injEq] at h
                subst h
                simp [ih vs q hd2]
      have hl := hlen ts vs cs hx'
      have henc : encAll C.E cs = .tup (cs.map fun c => encV C.E c.t c.x) := by
        match cs, hl with
        | [], _ => rfl
        | [c], hl =>
          match ts, hl with
          | [t], _ => exact absurd rfl (hne t)
        | c :: d :: r, _ => rfl
      rw [henc]
      refine .tup us _ (by simpa using a1) fun j u y p q => ?_
      rw [List.getElem?_map] at q
      cases hc : cs[j]? with
      | none => rw [hc] at q; simp at q
      | some c =>
        rw [hc] at q
        simp only [Option.map_some, Option.some.injEq] at q
        subst q
        exact a2 j u c (by simpa using p) hc
  · simp [D.opt] at hx
/-- A function's contract from its run. -/
theorem spec_ok (hE : EnvOK C.E) (hT : TyOK C) (hS : ∀ f sp, C.spec f = some sp → SpecOK C f sp) (hC : ClOK C cl) (hM : C.P.follows .mixedOrders = true) {hd : List Item → St S → Option (St S)} (hH : HdOK C hd)
    {f : FuncId} (hok : fnOk C f = true) {sp : Spec S} (ts : List Ty) (de : List (Cell S) → Option sp.R) (hde : ∀ cs r, de cs = some r → cs = sp.enc r)
    (hev : ∀ cs r, sp.run cs = some r → ∃ n, (runF C cl hd f ts de n (cs.map fun c => encV C.E c.t c.x)).opt = some r) : SpecOK C f sp := by
  unfold fnOk at hok
  cases hfn : C.P.funcs[f]? with
  | none => rw [hfn] at hok; cases hok
  | some fn =>
    rw [hfn] at hok
    simp only at hok
    cases hb : fn.body with
    | none => rw [hb] at hok; cases hok
    | some c =>
      rw [hb] at hok
      simp only [Bool.and_eq_true] at hok
      obtain ⟨hc, hname⟩ := hok
      refine ⟨⟨fn, hfn, by rw [hb]; rfl, by simpa using hname⟩, fun σ w vs cs r hg hnew hargs hrun => ?_⟩
      obtain ⟨n, hn⟩ := hev cs r hrun
      have hbody : body? C f = some (fn, c) := by unfold body?; rw [hfn]; simp [hb]
      unfold runF runW at hn
      rw [hbody] at hn
      simp only at hn
      let K0 : Gh := { gh0 σ with σ0 := some (σ, fun _ => undef) }
      have hx0 : Ext (gh0 σ) w K0 w := ⟨Nat.zero_le _, fun i hi => absurd hi (Nat.not_lt_zero i), fun _ => Nat.le_refl _, fun _ _ _ => rfl, fun _ _ _ h => keeps.of h, .inl rfl⟩
      have hm0 : RelM C K0 w w.heap.size ([] : Mem S) := ⟨rfl, fun i o h => by simp at h, fun i j hi _ _ _ _ => absurd hi (Nat.not_lt_zero i), hnew, hg, Nat.le_refl _, (σ, fun _ => undef), rfl, fun _ _ => rfl⟩
      refine calls_of_runs hfn hb fun b fs => ?_
      have hF : ∀ s r a w', At C w.heap.size K0 w s a w' → (finR C fn ts de s).opt = some r → a.defers = [] ∧ ∃ v σ', (results fn a.tmps).run C.P w' = .ok v w' ∧ Below w.heap.size w w' ∧ (∀ b, b < w.heap.size → σ' b = σ b) ∧ (∀ b, w'.heap.size ≤ b → σ' b = 0) ∧ RepV C.E (gh0 σ') w' v (encAll C.E (sp.enc r)) := by
        rintro s r a w' ⟨K, x1, x2, x3⟩ hf
        obtain ⟨cs', h1, h2⟩ := opt_bind_some hf
        have h2' : de cs' = some r := by
          cases hd : de cs' with
          | none => rw [hd] at h2; simp [D.ofOpt, D.opt] at h2
          | some q => rw [hd] at h2; simp only [D.ofOpt, D.opt, Option.some.injEq] at h2; rw [h2]
        obtain ⟨v, K', g1, g2, ⟨m, g3⟩, g4⟩ := finT_rep hE x3 fn h1
        rw [hde cs' r h2'] at g4
        obtain ⟨F, f1, f2⟩ := g3.old
        have hxx := x1.trans g2
        have hF : F = (σ, fun _ => undef) := by
          rcases hxx.σ0 with q | q
          · cases q
          · rw [f1] at q; cases q; rfl
        subst hF
        exact ⟨x3.defers, v, K'.σ, g1, x2, f2, g3.new, g4⟩
      have hA : At C w.heap.size K0 w (st0 fn (cs.map fun c => encV C.E c.t c.x) []) { tmps := vs ++ Array.replicate (fn.ntmps - vs.size) undef, defers := [] } w := by
        refine ⟨K0, .refl K0 w, Below.refl _ w, RelS.start hm0 fn (by simpa using hargs.1) fun j v y p q => ?_⟩
        rw [List.getElem?_map] at q
        cases hcj : cs[j]? with
        | none => rw [hcj] at q; simp at q
        | some c =>
          rw [hcj] at q
          simp only [Option.map_some, Option.some.injEq] at q
          subst q
          exact (hargs.2 j v c p hcj).mono hx0
      obtain ⟨a', w', t', ⟨hd', v, σ', q1, q2, q3, q4, q5⟩, st⟩ := ex_ok (b := b) (cs := fs) hE hT hS hC hM (canon_ok (T := fun r a w' => a.defers = [] ∧ ∃ v σ', (results fn a.tmps).run C.P w' = .ok v w' ∧ Below w.heap.size w w' ∧ (∀ b, b < w.heap.size → σ' b = σ b) ∧ (∀ b, w'.heap.size ≤ b → σ' b = 0) ∧ RepV C.E (gh0 σ') w' v (encAll C.E (sp.enc r))) hE hT hS hC hM rfl hH hF (fix_ok hE hT hS hC hM rfl hH hF n)) (fun id ops dr k s r a w _ _ _ hh => (no_hook n hh).elim) hF fuel [.code c] _ r _ w (by simp [itemsOk, itemOk, hc]) hA hn
      exact ⟨a', w', t', ⟨hd', v, q1, v, σ', rfl, q2, q3, q4, q5⟩, st⟩
end
end Go.Lv
