import Derived.Test.YtonphdpgepnenaaDoorLvSem
import Derived.WideLaws
import Derived.Laws.Small
import Derived.Laws.Strings
import Derived.Laws.Concat
import Derived.Laws.StructEq
namespace Go.Lv
set_option linter.all false
open Go Go.RowKit
variable {S : Nat → Type}

/-- What an operation's run comes to. -/
def OpRes (C : Ctx S) (K : Gh) (w : World) (B : Nat) (r : Result Next) (x : V S) (m' : Mem S) : Prop :=
  (∃ K' w' v, (r = .ok (.value v) w' ∨ (r = .ok .skip w' ∧ v = Go.undef)) ∧ Ext K w K' w' ∧ Below B w w' ∧ RelM C K' w' B m' ∧ RepV C.E K' w' v x) ∨
  (∃ f args, r = .ok (.enter f args) w ∧ Calls C.P f args w fun e w' => ∃ v K', e = .returned v ∧ Ext K w K' w' ∧ Below B w w' ∧ RelM C K' w' B m' ∧ RepV C.E K' w' v x)

/-- What a value's run comes to. -/
def VRes (C : Ctx S) (K : Gh) (w : World) (B : Nat) (r : Result Value) (x : V S) (m' : Mem S) : Prop :=
  ∃ K' w' v, r = .ok v w' ∧ Ext K w K' w' ∧ Below B w w' ∧ RelM C K' w' B m' ∧ RepV C.E K' w' v x

section
variable {C : Ctx S} {K : Gh} {w : World} {B : Nat} {m : Mem S}

theorem VRes.pur (h : RelM C K w B m) {r : Result Value} {v : Value} {x : V S} (hr : r = .ok v w) (hv : RepV C.E K w v x) : VRes C K w B r x m :=
  ⟨K, w, v, hr, .refl K w, Below.refl B w, h, hv⟩

theorem VRes.val {s : Sem Value} {x : V S} {m' : Mem S} (h : VRes C K w B (s.run C.P w) x m') : OpRes C K w B ((do pure (.value (← s)) : Sem Next).run C.P w) x m' := by
  obtain ⟨K', w', v, hr, h⟩ := h
  exact .inl ⟨K', w', v, .inl (by simp [hr]), h⟩

theorem int_of {v : Value} {k : IntKind} {n : Int} (h : RepV C.E K w v (.cell (.int k) n)) : v = .int k n := by
  cases h with | cell h => exact h.int_inv
theorem bool_of {v : Value} {b : Bool} (h : RepV C.E K w v (.cell .bool b)) : v = .bool b := by
  cases h with | cell h => exact h.bool_inv
theorem str_of {v : Value} {b : List UInt8} (h : RepV C.E K w v (.cell .str b)) : v = .string ⟨b.toArray⟩ := by
  cases h with | cell h => exact h.str_inv

theorem binInt_run (P : Program) (op : BinOp) (t : TypeId) (k k' : IntKind) (a b : Int) (x : V S) (h : (binInt (S := S) op k k' a b).opt = some x) :
    ∃ v, (binOp op t (.int k a) (.int k' b)).run P w = .ok v w ∧ RepV C.E K w v x := by
  unfold binInt at h
  split at h
  · simp only [D.opt] at h
    by_cases hb : b < 0
    · simp [hb] at h
    · simp only [hb, decide_false, cond_false, Option.some.injEq] at h
      subst h
      refine ⟨_, ?_, .cell (.int _ _)⟩
      simp [binOp, Op.shift, hb, shl]
  · simp only [D.opt] at h
    by_cases hb : b < 0
    · simp [hb] at h
    · simp only [hb, decide_false, cond_false, Option.some.injEq] at h
      subst h
      refine ⟨_, ?_, .cell (.int _ _)⟩
      simp [binOp, Op.shift, hb, shr]
  · split at h
    · rename_i hk
      subst hk
      unfold intOp at h
      split at h <;> simp only [D.opt, Option.some.injEq, reduceCtorEq] at h
      all_goals first
        | (subst h; refine ⟨_, ?_, .cell (.int _ _)⟩; simp [binOp, Op.intArith, Op.intBits, Op.intCmp]; done)
        | (subst h; refine ⟨_, ?_, .cell (.bool _)⟩; simp [binOp, Op.intArith, Op.intBits, Op.intCmp]; done)
        | (by_cases hb : b = 0
           · simp [hb] at h; done
           · have hb' : (b == 0) = false := by simp [hb]
             simp only [hb', cond_false, Option.some.injEq] at h
             subst h
             refine ⟨_, ?_, .cell (.int _ _)⟩
             simp [binOp, Op.intDiv, hb]; done)
    · simp [D.opt] at h

theorem guard_int (op : BinOp) (t : TypeId) (x y : Operand) (k : IntKind) (n : Int) (v : Value) : eqGuard op t x y (.int k n) v = pure () := by cases op <;> rfl
theorem guard_bool (op : BinOp) (t : TypeId) (x y : Operand) (k : Bool) (v : Value) : eqGuard op t x y (.bool k) v = pure () := by cases op <;> rfl
theorem guard_str (op : BinOp) (t : TypeId) (x y : Operand) (k : ByteArray) (v : Value) : eqGuard op t x y (.string k) v = pure () := by cases op <;> rfl
theorem guard_if (op : BinOp) (t : TypeId) (x y : Operand) (d : TypeId) (k : Value) (v : Value) : eqGuard op t x y (.iface d k) v = pure () := by cases op <;> rfl
theorem guard_nil (op : BinOp) (t : TypeId) (x : Operand) (c : Value) : eqGuard op t x (.const c) .nilIface .nilIface = pure () := by cases op <;> cases x <;> rfl

def gb (op : BinOp) (t : TypeId) (xo yo : Operand) (a b : Value) : Sem Value := do eqGuard op t xo yo a b; binOp op t a b
theorem gb_int (op : BinOp) (t : TypeId) (xo yo : Operand) (k k' : IntKind) (a b : Int) (z : V S) (h : (binInt (S := S) op k k' a b).opt = some z) :
    ∃ v, (gb op t xo yo (.int k a) (.int k' b)).run C.P w = .ok v w ∧ RepV C.E K w v z := by
  obtain ⟨v, hv, hr⟩ := binInt_run (C := C) (K := K) (w := w) C.P op t _ _ _ _ z h
  exact ⟨v, by simp [gb, guard_int, hv], hr⟩
theorem gb_bool (op : BinOp) (t : TypeId) (xo yo : Operand) (a b : Bool) (z : V S) (ht : C.P.underlying t = some .bool) (h : (binBool (S := S) op a b).opt = some z) :
    ∃ v, (gb op t xo yo (.bool a) (.bool b)).run C.P w = .ok v w ∧ RepV C.E K w v z := by
  unfold binBool at h
  split at h <;> simp only [D.opt, Option.some.injEq, reduceCtorEq] at h
  · subst h; exact ⟨_, by simp [gb, guard_bool, run_eql_bool w t _ _ ht], .cell (.bool _)⟩
  · subst h; exact ⟨_, by simp [gb, guard_bool, run_neq_bool w t _ _ ht], .cell (.bool _)⟩
theorem gb_str (op : BinOp) (t : TypeId) (xo yo : Operand) (a b : List UInt8) (z : V S) (h : (binStr (S := S) op a b).opt = some z) :
    ∃ v, (gb op t xo yo (.string ⟨a.toArray⟩) (.string ⟨b.toArray⟩)).run C.P w = .ok v w ∧ RepV C.E K w v z := by
  unfold binStr at h
  split at h <;> simp only [D.opt, Option.some.injEq, reduceCtorEq] at h
  · subst h; refine ⟨_, ?_, .cell (.bool _)⟩; simp [gb, guard_str, binOp, Op.stringOp]
  · subst h; refine ⟨_, ?_, .cell (.bool _)⟩; simp [gb, guard_str, binOp, Op.stringOp]
  · by_cases hl : a.length + b.length ≤ 1152921504606846976
    · simp only [hl, decide_true, cond_true, Option.some.injEq] at h
      subst h
      refine ⟨_, ?_, .cell (.str _)⟩
      have h2 : (⟨a.toArray⟩ : ByteArray) ++ ⟨b.toArray⟩ = ⟨(a ++ b).toArray⟩ := by apply ByteArray.ext; simp
      have h3 := run_string_add_sum (P := C.P) w ⟨a.toArray⟩ ⟨b.toArray⟩ (by simp [ByteArray.size]; omega)
      simp only [gb, guard_str, binOp, Sem.run_bind, Sem.run_pure, Result.andThen_ok, h3, h2]
    · simp [hl] at h
theorem gb_err (op : BinOp) (t : TypeId) (xo yo : Operand) (a b : Bool) (va vb : Value) (ms : Array (String × TypeId)) (z : V S) (ht : C.P.underlying t = some (.interface ms)) (hyc : ∃ c, yo = .const c)
    (ha : Rep C.E K.σ w va .err a) (hb : Rep C.E K.σ w vb .err b) (h : (binErr (S := S) op a b).opt = some z) :
    ∃ v, (gb op t xo yo va vb).run C.P w = .ok v w ∧ RepV C.E K w v z := by
  have hm : C.P.underlying t = some (.interface (C.P.methodsAt t)) := by simp [Program.methodsAt, ht]
  unfold binErr at h
  cases b with
  | true => simp [D.opt] at h
  | false =>
    have eb : vb = .nilIface := by cases hb; rfl
    subst eb
    obtain ⟨c, rfl⟩ := hyc
    cases ha with
    | errNil =>
      simp only [Bool.false_eq_true, if_false] at h
      split at h <;> simp only [D.opt, Option.some.injEq, reduceCtorEq] at h
      · subst h; exact ⟨_, by simp [gb, guard_nil, run_eql_nil_nil w t hm], .cell (.bool _)⟩
      · subst h; exact ⟨_, by simp [gb, guard_nil, run_neq_nil_nil w t hm], .cell (.bool _)⟩
    | err u v =>
      simp only [Bool.false_eq_true, if_false] at h
      split at h <;> simp only [D.opt, Option.some.injEq, reduceCtorEq] at h
      · subst h; exact ⟨_, by simp [gb, guard_if, run_eql_held_nil w t _ _ hm], .cell (.bool _)⟩
      · subst h; exact ⟨_, by simp [gb, guard_if, run_neq_held_nil w t _ _ hm], .cell (.bool _)⟩

theorem run_isAgg0 {t : TypeId} {b : Bool} (h : isAgg? C t = some b) : (isAgg t).run C.P w = .ok b w := by
  unfold isAgg? at h
  cases hu : C.P.underlying t with
  | none => rw [hu] at h; cases h
  | some d =>
    rw [hu] at h
    simp only [Option.map_some, Option.some.injEq] at h
    subst h
    cases d <;> simp [isAgg, run_underlying hu]
theorem eqF_run {as bs : Array Value} {xs ys : List (V S)} (h1 : as.size = xs.length) (h2 : bs.size = ys.length) (ha : ∀ (j : Nat) (c : Value) (v : V S), as[j]? = some c → xs[j]? = some v → RepV C.E K w c v)
    (hb : ∀ (j : Nat) (c : Value) (v : V S), bs[j]? = some c → ys[j]? = some v → RepV C.E K w c v) (d : Nat) : ∀ (fs : List Field) (r : Bool), eqF C fs xs ys = some r → (Op.eqFields (d + 1) as bs fs).run C.P w = .ok r w
  | [], r, h => by
    simp only [eqF, Option.some.injEq] at h
    subst h
    simp [Op.eqFields]
  | f :: fs, r, h => by
    simp only [eqF] at h
    split at h
    · rename_i k0 k a k' b hu hx hy
      split at h
      · rename_i hc
        obtain ⟨rfl, hag, hnm⟩ := hc
        cases hr : eqF C fs xs ys with
        | none => rw [hr] at h; cases h
        | some r' =>
          rw [hr] at h
          simp only [Option.map_some, Option.some.injEq] at h
          subst h
          have ih := eqF_run h1 h2 ha hb d fs r' hr
          have l1 : f.offset < as.size := by rw [h1]; exact (List.getElem?_eq_some_iff.1 hx).1
          have l2 : f.offset < bs.size := by rw [h2]; exact (List.getElem?_eq_some_iff.1 hy).1
          have e1 : as[f.offset] = .int k a := int_of (ha f.offset _ _ (by simp [l1]) hx)
          have e2 : bs[f.offset] = .int k b := int_of (hb f.offset _ _ (by simp [l2]) hy)
          have p1 : (part f.type as f.offset).run C.P w = .ok (.int k a) w := by simp [part, run_isAgg0 (w := w) hag, l1, e1]
          have p2 : (part f.type bs f.offset).run C.P w = .ok (.int k b) w := by simp [part, run_isAgg0 (w := w) hag, l2, e2]
          have hne : f.name ≠ "_" := by
            intro q; rw [q] at hnm; simp at hnm
          have p3 := run_equalIn_int (P := C.P) w d f.type k k0 a b hu
          simp only [Op.eqFields, if_pos hne, Sem.run_bind, p1, p2, p3, Result.andThen_ok]
          have e3 : ieq a b = @BEq.beq Int _ a b := rfl
          rw [e3]
          generalize @BEq.beq Int _ a b = q
          cases q with
          | true => exact ih
          | false => rfl
      · cases h
    · cases h
theorem gb_agg (op : BinOp) (t : TypeId) (xo yo : Operand) (as bs : Array Value) (xs ys : List (V S)) (z : V S) (h1 : as.size = xs.length) (h2 : bs.size = ys.length) (ha : ∀ (j : Nat) (c : Value) (v : V S), as[j]? = some c → xs[j]? = some v → RepV C.E K w c v)
    (hb : ∀ (j : Nat) (c : Value) (v : V S), bs[j]? = some c → ys[j]? = some v → RepV C.E K w c v) (h : (binAgg C op t xs ys).opt = some z) :
    ∃ v, (gb op t xo yo (.agg as) (.agg bs)).run C.P w = .ok v w ∧ RepV C.E K w v z := by
  unfold binAgg at h
  split at h
  · rename_i fs hu
    split at h
    · rename_i hc
      cases hr : eqF C fs.toList xs ys with
      | none => rw [hr] at h; simp [D.ofOpt, D.bind, D.opt] at h
      | some r =>
        rw [hr] at h
        have hf : C.P.fieldsOf t = fs := by simp [Program.fieldsOf, hu]
        have hrun := run_equalIn_struct (P := C.P) w 9999 t as bs (by rw [hf]; exact hu) hc.1
        rw [hf, eqF_run h1 h2 ha hb 9998 _ _ hr] at hrun
        have hg := run_eqGuard_agg (P := C.P) w op t xo yo as bs hc.2
        simp only [D.ofOpt, D.bind] at h
        split at h <;> simp only [D.opt, Option.some.injEq, reduceCtorEq] at h
        · subst h
          exact ⟨_, by simp only [gb, Sem.run_bind, hg, Result.andThen_ok, run_eql_struct, hrun], .cell (.bool _)⟩
        · subst h
          exact ⟨_, by simp only [gb, Sem.run_bind, hg, Result.andThen_ok, run_neq_struct, hrun], .cell (.bool _)⟩
    · simp [D.opt] at h
  · simp [D.opt] at h

theorem bin_run (op : BinOp) (t : TypeId) (xo yo : Operand) (a b : Value) (x y z : V S) (ha : RepV C.E K w a x) (hb : RepV C.E K w b y) (yc : Bool) (hyc : yc = true → ∃ c, yo = .const c)
    (h : (binD C op t yc x y).opt = some z) :
    ∃ v, (gb op t xo yo a b).run C.P w = .ok v w ∧ RepV C.E K w v z := by
  unfold binD at h
  split at h
  · cases ha with
    | agg as _ a1 a2 => cases hb with
      | agg bs _ b1 b2 => exact gb_agg op t xo yo as bs _ _ z a1 b1 a2 b2 h
  · rw [int_of ha, int_of hb]; exact gb_int op t xo yo _ _ _ _ z h
  · rw [bool_of ha, bool_of hb]
    split at h
    · rename_i ht; exact gb_bool op t xo yo _ _ z ht h
    · simp [D.opt] at h
  · rw [str_of ha, str_of hb]; exact gb_str op t xo yo _ _ z h
  · split at h
    · rename_i ms ht
      split at h
      · rename_i hy
        cases ha with
        | cell ha => cases hb with
          | cell hb => exact gb_err op t xo yo _ _ a b ms z ht (hyc hy) ha hb h
      · simp [D.opt] at h
    · simp [D.opt] at h
  · simp [D.opt] at h
end
end Go.Lv
