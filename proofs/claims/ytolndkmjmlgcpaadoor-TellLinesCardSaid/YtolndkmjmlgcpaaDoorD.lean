import Derived.Test.YtolndkmjmlgcpaaDoorC
import Derived.ChangeArms
import Derived.WideShapes
import Derived.ChangeShapes
import Derived.WalkKit
import Derived.ProofKit
import Derived.OpenShut
import Derived.ChangeOld
import Derived.SizedLaws
import Derived.JoinedOf
import Derived.LaidMore
import Derived.LaidHandle
import Derived.LaidLaws
import Derived.Handed
import Derived.WideKeyElems2
import Derived.Test.YtolndkmjmlgcpaaDoorA
import Derived.KernelRfl
import Derived.RangeFuncRecord
import Derived.Shelf.Strings.OnBuilder
namespace Go.Lv
set_option linter.all false
open Go Go.RowKit
variable {S : Nat → Type}
/-- Each struct's cells make one. -/
def EnvFill (E : Env S) : Prop := ∀ i (cells : List (Cell S)), cells.map (·.t) = E.tys i → ∃ x, E.toC i x = cells
/-- In range. -/
inductive Wf (E : Env S) : (t : Ty) → den S t → Prop where
  | bool (b : Bool) : Wf E .bool b
  | int (k : IntKind) (n : Int) (h : (Lit.int k n).wf = true) : Wf E (.int k) n
  | str (l : List UInt8) (h : l.length ≤ maxLen) : Wf E .str l
  | err (b : Bool) : Wf E .err b
  | slice (t : Ty) (l : List (den S t)) (hl : l.length ≤ maxLen) (h : ∀ (i : Nat) (x : den S t), l[i]? = some x → ∀ (j : Nat) (c : Cell S), (cellsOf E t x)[j]? = some c → Wf E c.t c.x) : Wf E (.slice t) l
def WfV (E : Env S) (t : Ty) (x : den S t) : Prop := ∀ (j : Nat) (c : Cell S), (cellsOf E t x)[j]? = some c → Wf E c.t c.x
/-- The whole of what is there is held. -/
def sig (w : World) (b : Nat) : Nat := match w.heap[b]? with
  | some (.cells c _ _) => c.size
  | some (.map _ _) => 1
  | _ => 0
theorem sig_cell {w : World} {b o : Nat} {v : Value} (h : w.cell? ⟨b, o, none⟩ = some v) : o < sig w b := by
  unfold World.cell? at h
  unfold sig
  split at h
  · rename_i c e fr hb
    simp only at hb
    rw [hb]
    simp only [Option.isSome_none, Bool.false_eq_true, if_false] at h
    exact (Array.getElem?_eq_some_iff.1 h).1
  · cases h
theorem sig_new {w : World} (b : Nat) (h : w.heap.size ≤ b) : sig w b = 0 := by
  unfold sig; rw [Array.getElem?_eq_none h]
def flatF (P : Program) (flat : TypeId → Option (List Ty)) : Nat → List Field → Option (List Ty)
  | _, [] => some []
  | off, f :: fs => if f.offset = off then (flat f.type).bind fun ts => (flatF P flat (off + ts.length) fs).map fun r => ts ++ r else none
/-- A type's cells. -/
def flat (P : Program) (ty : TypeId → Option Ty) : Nat → TypeId → Option (List Ty)
  | 0, _ => none
  | n + 1, t => (match P.underlying t with
    | some .bool => some [Ty.bool]
    | some (.int k) => some [Ty.int k]
    | some .string => some [Ty.str]
    | some (.interface _) => some [Ty.err]
    | some (.slice e) => (ty e).map fun T => [Ty.slice T]
    | some (.struct fs) => flatF P (flat P ty n) 0 fs.toList
    | _ => none).bind fun ts => if P.cellsOf t = ts.length then some ts else none
def cellTys (E : Env S) : Ty → List Ty
  | .st i => E.tys i
  | t => [t]
def isStT : Ty → Bool
  | .st _ => true
  | _ => false
def isStr (P : Program) (t : TypeId) : Bool := match P.underlying t with
  | some (.struct _) => true
  | _ => false
def TabOK (C : Ctx S) : Prop := ∀ t T, C.ty t = some T → (∃ n, flat C.P C.ty n t = some (cellTys C.E T)) ∧ 0 < tsize C.E T ∧ isStr C.P t = isStT T
theorem flat_len {P : Program} {ty : TypeId → Option Ty} {n : Nat} {t : TypeId} {ts : List Ty} (h : flat P ty n t = some ts) : P.cellsOf t = ts.length := by
  cases n with
  | zero => simp [flat] at h
  | succ n =>
    simp only [flat] at h
    rw [Option.bind_eq_some_iff] at h
    obtain ⟨ts', _, h⟩ := h
    split at h
    · cases h; assumption
    · cases h
theorem fill (E : Env S) (hF : EnvFill E) (T : Ty) (cells : List (Cell S)) (h : cells.map (·.t) = cellTys E T) : ∃ x : den S T, cellsOf E T x = cells := by
  have leaf : ∀ T : Ty, cells.map (·.t) = [T] → ∃ x : den S T, cells = [⟨T, x⟩] := by
    intro T h
    match cells, h with
    | [⟨t, x⟩], h =>
      simp at h
      subst h
      exact ⟨x, rfl⟩
  cases T with
  | st i => exact hF i cells h
  | bool => obtain ⟨x, hx⟩ := leaf .bool h; exact ⟨x, hx.symm⟩
  | int k => obtain ⟨x, hx⟩ := leaf (.int k) h; exact ⟨x, hx.symm⟩
  | str => obtain ⟨x, hx⟩ := leaf .str h; exact ⟨x, hx.symm⟩
  | err => obtain ⟨x, hx⟩ := leaf .err h; exact ⟨x, hx.symm⟩
  | fn => obtain ⟨x, hx⟩ := leaf .fn h; exact ⟨x, hx.symm⟩
  | slice t => obtain ⟨x, hx⟩ := leaf (.slice t) h; exact ⟨x, hx.symm⟩
section
variable {H : Type} {enc : TypeId × Value → H} {C : Ctx S} {W : World} {sp : Nat → Bool}
theorem addr_add (a : Addr) (m r : Nat) : (a.add m).add r = a.add (m + r) := by
  unfold Addr.add
  by_cases h : m = 0 <;> by_cases h' : r = 0 <;> simp [*, Nat.add_assoc]
theorem addr_plain (b off j : Nat) : (⟨b, off, none⟩ : Addr).add j = ⟨b, off + j, none⟩ := by
  unfold Addr.add
  by_cases h : j = 0 <;> simp [*]
/-- Cells that are told. -/
def Told (E : Env S) (W : World) (cs : List Value) (cells : List (Cell S)) : Prop :=
  cs.length = cells.length ∧ ∀ (j : Nat) (v : Value) (c : Cell S), cs[j]? = some v → cells[j]? = some c → Rep E (sig W) W v c.t c.x ∧ Wf E c.t c.x
theorem Told.one {E : Env S} {v : Value} {t : Ty} {x : den S t} (h : Rep E (sig W) W v t x) (hw : Wf E t x) : Told E W [v] [⟨t, x⟩] := by
  refine ⟨rfl, fun j u c p q => ?_⟩
  cases j with
  | zero => simp only [List.getElem?_cons_zero, Option.some.injEq] at p q; subst p q; exact ⟨h, hw⟩
  | succ j => simp at p
theorem cells?_get {w : World} {base : Nat} {a : Addr} : ∀ {n : Nat} {cs : List Value}, w.cells? base a n = some cs → cs.length = n ∧ ∀ i, i < n → w.cell? (a.add i) = cs[i]? := by
  intro n cs h
  unfold World.cells? at h
  split at h
  · exact ⟨by simpa using mapM_some_length h, fun i hi => by simpa using mapM_some_get h i i (by simp [hi])⟩
  · cases h
theorem read_cells (hTab : TabOK C) (hF : EnvFill C.E) (hE : EnvOK C.E) : ∀ (n : Nat) (t : TypeId) (k : Nat) (ts : List Ty) (cs : List Value) (x : DataW H × List MemPlace),
    DataW.trod enc C.P W 0 sp true n t cs = some x → flat C.P C.ty k t = some ts → ∃ cells : List (Cell S), cells.map (·.t) = ts ∧ Told C.E W cs cells := by
  intro n
  induction n with
  | zero => intro t k ts cs x h; simp [DataW.trod] at h
  | succ n ih =>
    intro t k ts cs x h hf
    have hcl := flat_len hf
    cases k with
    | zero => simp [flat] at hf
    | succ k =>
      simp only [flat] at hf
      rw [Option.bind_eq_some_iff] at hf
      obtain ⟨ts', hf, hts⟩ := hf
      have : ts' = ts := by
        split at hts
        · cases hts; rfl
        · cases hts
      subst this
      split at hf
      · rename_i hu
        cases hf
        obtain ⟨b, rfl, _⟩ := DataW.trod_bool hu h
        exact ⟨[⟨.bool, b⟩], rfl, .one (.bool b) (.bool b)⟩
      · rename_i kk hu
        cases hf
        obtain ⟨m, rfl, _, hw⟩ := DataW.trod_int hu h
        exact ⟨[⟨.int kk, m⟩], rfl, .one (.int kk m) (.int kk m hw)⟩
      · rename_i hu
        cases hf
        obtain ⟨s, rfl, _, hs⟩ := DataW.trod_string hu h
        refine ⟨[⟨.str, s.data.toList⟩], rfl, .one ?_ (.str _ (by have e : s.data.toList.length = s.size := Array.length_toList; rw [e]; exact hs))⟩
        have := Rep.str (E := C.E) (σ := sig W) (w := W) s.data.toList
        simpa using this
      · rename_i hu
        cases hf
        have key : cs = [.nilIface] ∨ ∃ u v, cs = [.iface u v] := by
          unfold DataW.trod at h
          rw [hu] at h
          split at h <;> simp_all
        rcases key with rfl | ⟨u, v, rfl⟩
        · exact ⟨[⟨.err, false⟩], rfl, .one .errNil (.err _)⟩
        · exact ⟨[⟨.err, true⟩], rfl, .one (.err u v) (.err _)⟩
      · rename_i e hu
        cases hty : C.ty e with
        | none => rw [hty] at hf; cases hf
        | some T =>
          rw [hty] at hf
          simp only [Option.map_some, Option.some.injEq] at hf
          subst hf
          obtain ⟨⟨k', hflat⟩, hT0, _⟩ := hTab e T hty
          rcases DataW.trod_slice hu h with ⟨rfl, _⟩ | ⟨a, len, cap, elems, rest, n', hn, rfl, _, _, hl, hm, hlen, hel, _, _⟩
          · exact ⟨[⟨.slice T, ([] : List (den S T))⟩], rfl, .one (.nil T none 0) (.slice T [] (Nat.zero_le _) fun i x q => by simp at q)⟩
          · have hn' : n' = n := by omega
            subst hn'
            have hsz : C.P.cellsOf e = tsize C.E T := by
              rw [flat_len hflat]
              cases T <;> rfl
            have each : ∀ i, i < len → ∃ y : den S T, ∃ cs', W.cells? 0 (a.add (i * C.P.cellsOf e)) (C.P.cellsOf e) = some cs' ∧ Told C.E W cs' (cellsOf C.E T y) := by
              intro i hi
              have := hel i hi
              have hi' : i < elems.length := by omega
              rw [List.getElem?_eq_getElem hi', Option.bind_eq_some_iff] at this
              obtain ⟨cs', h1, h2⟩ := this
              obtain ⟨cells, h3, h4⟩ := ih e k' _ cs' _ h2 hflat
              obtain ⟨y, rfl⟩ := fill C.E hF T cells h3
              exact ⟨y, cs', h1, h4⟩
            have pick : ∀ m, m ≤ len → ∃ l : List (den S T), l.length = m ∧ ∀ (i : Nat) (y : den S T), l[i]? = some y → ∃ cs', W.cells? 0 (a.add (i * C.P.cellsOf e)) (C.P.cellsOf e) = some cs' ∧ Told C.E W cs' (cellsOf C.E T y) := by
              intro m
              induction m with
              | zero => intro _; exact ⟨[], rfl, fun i y q => by simp at q⟩
              | succ m ihm =>
                intro hm'
                obtain ⟨l, l1, l2⟩ := ihm (by omega)
                obtain ⟨y, hy⟩ := each m (by omega)
                refine ⟨l ++ [y], by simp [l1], fun i z q => ?_⟩
                by_cases hi : i < l.length
                · rw [List.getElem?_append_left hi] at q; exact l2 i z q
                · have hi2 : i = m := by
                    have := (List.getElem?_eq_some_iff.1 q).1
                    simp at this; omega
                  subst hi2
                  rw [← l1, List.getElem?_concat_length, Option.some.injEq] at q
                  subst q
                  exact hy
            obtain ⟨l, rfl, hl2⟩ := pick len (Nat.le_refl _)
            have hwf : Wf C.E (.slice T) l := .slice T l (by omega) fun i y q j c r => by
              obtain ⟨cs', c1, c2, c3⟩ := hl2 i y q
              have hj : j < cs'.length := by rw [c2]; exact (List.getElem?_eq_some_iff.1 r).1
              exact (c3 j cs'[j] c (List.getElem?_eq_getElem hj) r).2
            refine ⟨[⟨.slice T, l⟩], rfl, .one ?_ hwf⟩
            by_cases hz : l.length * tsize C.E T = 0
            · have : l = [] := by
                cases l with
                | nil => rfl
                | cons y r =>
                  exfalso
                  rcases Nat.mul_eq_zero.1 hz with q | q
                  · simp at q
                  · omega
              subst this
              exact .nil T _ _
            · have hone : ∀ j, j < l.length * tsize C.E T → ∃ v, W.cell? (a.add j) = some v ∧ ∀ (i : Nat) (y : den S T), l[i]? = some y → ∀ (j' : Nat) (c : Cell S), (cellsOf C.E T y)[j']? = some c → j = i * tsize C.E T + j' → Rep C.E (sig W) W v c.t c.x := by
                intro j hj
                have hT : 0 < tsize C.E T := by
                  rcases Nat.eq_zero_or_pos (tsize C.E T) with q | q
                  · rw [q] at hz; simp at hz
                  · exact q
                have hi : j / tsize C.E T < l.length := Nat.div_lt_of_lt_mul (by rw [Nat.mul_comm]; exact hj)
                obtain ⟨cs', c1, c2, c3⟩ := hl2 (j / tsize C.E T) _ (List.getElem?_eq_getElem hi)
                obtain ⟨g1, g2⟩ := cells?_get c1
                have hr : j % tsize C.E T < C.P.cellsOf e := by rw [hsz]; exact Nat.mod_lt _ hT
                have hg := g2 _ hr
                have hdm : j / tsize C.E T * tsize C.E T + j % tsize C.E T = j := Nat.div_add_mod' j _
                have ha : (a.add (j / tsize C.E T * C.P.cellsOf e)).add (j % tsize C.E T) = a.add j := by
                  rw [hsz]
                  rw [addr_add, hdm]
                rw [ha] at hg
                have hlt : j % tsize C.E T < cs'.length := by omega
                refine ⟨cs'[j % tsize C.E T], by rw [hg, List.getElem?_eq_getElem hlt], fun i y hy j' c hc e => ?_⟩
                have hj' : j' < tsize C.E T := by rw [← cellsOf_len hE T y]; exact (List.getElem?_eq_some_iff.1 hc).1
                have e1 : i = j / tsize C.E T := by rw [e, Nat.mul_comm, Nat.mul_add_div hT, Nat.div_eq_of_lt hj']; rfl
                have e2 : j' = j % tsize C.E T := by rw [e, Nat.mul_comm, Nat.mul_add_mod, Nat.mod_eq_of_lt hj']
                subst e1 e2
                rw [List.getElem?_eq_getElem hi, Option.some.injEq] at hy
                subst hy
                exact (c3 _ _ c (List.getElem?_eq_getElem hlt) hc).1
              have hspot : a.spot = none := by
                obtain ⟨v, hv, _⟩ := hone 0 (by omega)
                unfold World.cell? at hv
                split at hv
                · split at hv
                  · cases hv
                  · rename_i q; cases hs : a.spot with
                    | none => rfl
                    | some _ => simp [Addr.add, hs] at q
                · cases hv
              obtain ⟨b, off, spot⟩ := a
              simp only at hspot
              subst hspot
              let vs : Nat → Value := fun j => (W.cell? ⟨b, off + j, none⟩).getD undef
              have hvs : ∀ j, j < l.length * tsize C.E T → W.cell? ⟨b, off + j, none⟩ = some (vs j) := by
                intro j hj
                obtain ⟨v, hv, _⟩ := hone j hj
                have : W.cell? ⟨b, off + j, none⟩ = some v := (addr_plain b off j) ▸ hv
                simp only [vs, this, Option.getD_some]
              refine .slice T l b off cap vs (by omega) ?_ hvs fun i y hy j c hc => ?_
              · have := sig_cell (hvs (l.length * tsize C.E T - 1) (by omega))
                omega
              · have hj' : j < tsize C.E T := by rw [← cellsOf_len hE T y]; exact (List.getElem?_eq_some_iff.1 hc).1
                have hi : i < l.length := (List.getElem?_eq_some_iff.1 hy).1
                have hlt : i * tsize C.E T + j < l.length * tsize C.E T := by
                  have : (i + 1) * tsize C.E T ≤ l.length * tsize C.E T := Nat.mul_le_mul_right _ hi
                  rw [Nat.succ_mul] at this
                  omega
                obtain ⟨v, hv, hv2⟩ := hone _ hlt
                have : W.cell? ⟨b, off + (i * tsize C.E T + j), none⟩ = some v := (addr_plain b off _) ▸ hv
                have e : vs (i * tsize C.E T + j) = v := by simp only [vs, this, Option.getD_some]
                rw [e]
                exact hv2 i y hy j c hc rfl
      · rename_i fs hu
        obtain ⟨xs, n', hn, _, hcs, hxl, hxs⟩ := DataW.trod_struct hu h
        have hn' : n' = n := by omega
        subst hn'
        have main : ∀ (l : List Field) (off : Nat) (r : List Ty), (∀ f, f ∈ l → ∃ y, DataW.trod enc C.P W 0 sp true n' f.type ((cs.drop f.offset).take (C.P.cellsOf f.type)) = some y) → flatF C.P (flat C.P C.ty k) off l = some r → off + r.length ≤ cs.length →
            ∃ cells : List (Cell S), cells.map (·.t) = r ∧ Told C.E W ((cs.drop off).take r.length) cells := by
          intro l
          induction l with
          | nil =>
            intro off r _ hr _
            simp only [flatF, Option.some.injEq] at hr
            subst hr
            exact ⟨[], rfl, by simp [Told]⟩
          | cons f l ihl =>
            intro off r hl hr hle
            simp only [flatF] at hr
            split at hr
            · rename_i hoff
              rw [Option.bind_eq_some_iff] at hr
              obtain ⟨ts1, h1, hr⟩ := hr
              rw [Option.map_eq_some_iff] at hr
              obtain ⟨r2, h2, hr⟩ := hr
              subst hr
              obtain ⟨y, hy⟩ := hl f (by simp)
              rw [hoff, flat_len h1] at hy
              obtain ⟨c1, q1, q2, q3⟩ := ih f.type k ts1 _ y hy h1
              rw [List.length_append] at hle
              obtain ⟨c2, p1, p2, p3⟩ := ihl (off + ts1.length) r2 (fun g hg => hl g (by simp [hg])) h2 (by omega)
              have hc1 : c1.length = ts1.length := by rw [← q1]; simp
              have e : (cs.drop off).take (ts1.length + r2.length) = (cs.drop off).take ts1.length ++ (cs.drop (off + ts1.length)).take r2.length := by
                rw [List.take_add, List.drop_drop]
              refine ⟨c1 ++ c2, by simp [q1, p1], ?_⟩
              rw [List.length_append, e]
              refine ⟨by rw [List.length_append, List.length_append, q2, p2], fun j v c hv hc => ?_⟩
              by_cases hj : j < c1.length
              · rw [List.getElem?_append_left hj] at hc
                rw [List.getElem?_append_left (by rw [q2]; exact hj)] at hv
                exact q3 j v c hv hc
              · rw [List.getElem?_append_right (by omega)] at hc
                rw [List.getElem?_append_right (by rw [q2]; omega), q2] at hv
                exact p3 _ v c hv hc
            · cases hr
        obtain ⟨cells, h1, h2⟩ := main fs.toList 0 ts' (fun f hf => by
          obtain ⟨i, hi⟩ := List.getElem?_of_mem hf
          have hi2 : fs[i]? = some f := by simpa using hi
          have := hxs i f hi2
          have hlt : i < xs.length := by rw [hxl]; exact (Array.getElem?_eq_some_iff.1 hi2).1
          rw [List.getElem?_eq_getElem hlt] at this
          exact ⟨_, this⟩) hf (by rw [hcs, hcl]; omega)
        refine ⟨cells, h1, ?_⟩
        have : (cs.drop 0).take ts'.length = cs := by rw [List.drop_zero, List.take_of_length_le]; omega
        rwa [this] at h2
      · cases hf
end
end Go.Lv
namespace Go.Lv
set_option linter.all false
open Go Go.RowKit Go.ChangeShapes Go.WideShapes Go.ChangeAt
variable {S : Nat → Type}
section
variable {H : Type} {enc : TypeId × Value → H} {C : Ctx S} {W : World} {sp : Nat → Bool}
theorem flat_cell {P : Program} {w : World} {base : Nat} {ty : TypeId → Option Ty} {n : Nat} {t : TypeId} {ts : List Ty} {v : Value} (hf : flat P ty n t = some ts) (hs : isStr P t = false) (h : Value.okWide P w .any base t v) : v.cells = #[v] := by
  cases n with
  | zero => simp [flat] at hf
  | succ n =>
    simp only [flat] at hf
    rw [Option.bind_eq_some_iff] at hf
    obtain ⟨ts', hf, _⟩ := hf
    split at hf <;> rename_i hu <;> first | (simp only [isStr, hu] at hs; done) | skip
    all_goals first
      | cases hf; done
      | (simp only [isStr, hu] at hs; cases hs; done)
      | (simp only [Value.okWide, hu, Cell.okWide] at h; cases v <;> simp_all [Cell.ok, Value.cells]; done)
theorem read_arg (hTab : TabOK C) (hF : EnvFill C.E) (hE : EnvOK C.E) {base : Nat} {t : TypeId} {T : Ty} (hty : C.ty t = some T) {v : Value} {d : DataW H} {ps : List MemPlace}
    (hok : Value.okWide C.P W .any base t v) (h : DataW.Trod enc C.P W 0 sp true t v d ps) : ∃ x : den S T, RepV C.E (gh0 (sig W)) W v (encV C.E T x) ∧ WfV C.E T x := by
  obtain ⟨fuel, h⟩ := h
  obtain ⟨⟨n, hflat⟩, h0, hstr⟩ := hTab t T hty
  obtain ⟨cells, h1, h2, h3⟩ := read_cells hTab hF hE fuel t n _ _ _ h hflat
  obtain ⟨x, rfl⟩ := fill C.E hF T cells h1
  refine ⟨x, ?_, fun j c hc => ?_⟩
  · have leaf : (∀ i, T ≠ .st i) → RepV C.E (gh0 (sig W)) W v (.cell T x) := by
      intro hT
      have hs : isStr C.P t = false := by
        rw [hstr]
        cases T with
        | st i => exact absurd rfl (hT i)
        | _ => rfl
      have hc := flat_cell hflat hs hok
      have hcell : cellsOf C.E T x = [⟨T, x⟩] := by
        cases T with
        | st i => exact absurd rfl (hT i)
        | _ => rfl
      rw [hc, hcell] at h3
      exact .cell (h3 0 v ⟨T, x⟩ rfl rfl).1
    cases T with
    | st i =>
      have hs : isStr C.P t = true := hstr
      unfold isStr at hs
      split at hs
      · rename_i fs hu
        obtain ⟨cs, rfl, _⟩ := okWide_struct hu hok
        have hl : cs.size = (C.E.toC i x).length := by simpa [Value.cells, cellsOf] using h2
        refine .agg cs _ (by simpa using hl) fun j c u hc hu => ?_
        rw [List.getElem?_map] at hu
        cases hcl : (C.E.toC i x)[j]? with
        | none => rw [hcl] at hu; simp at hu
        | some cl =>
          rw [hcl] at hu
          simp only [Option.map_some, Option.some.injEq] at hu
          subst hu
          exact .cell (h3 j c cl (by simpa [Value.cells] using hc) hcl).1
      · cases hs
    | bool => exact leaf (fun i e => by cases e)
    | int k => exact leaf (fun i e => by cases e)
    | str => exact leaf (fun i e => by cases e)
    | err => exact leaf (fun i e => by cases e)
    | fn => exact leaf (fun i e => by cases e)
    | slice t => exact leaf (fun i e => by cases e)
  · have hj : j < v.cells.toList.length := by rw [h2]; exact (List.getElem?_eq_some_iff.1 hc).1
    exact (h3 j _ c (List.getElem?_eq_getElem hj) hc).2
/-- Arguments in range. -/
def ArgsOK (E : Env S) (ts : List Ty) (cs : List (Cell S)) : Prop := cs.map (·.t) = ts ∧ ∀ c, c ∈ cs → WfV E c.t c.x
theorem read_args (hTab : TabOK C) (hF : EnvFill C.E) (hE : EnvOK C.E) {base : Nat} : ∀ (ts : List TypeId) (Ts : List Ty) (vs : List Value) (ds : List (DataW H)) (ps : List MemPlace), ts.map C.ty = Ts.map some → DataW.TrodAll enc C.P W 0 sp true ts vs ds ps →
    (∀ (j : Nat) (t : TypeId) (v : Value), ts[j]? = some t → vs[j]? = some v → Value.okWide C.P W .any base t v) →
    ∃ cs : List (Cell S), ArgsOK C.E Ts cs ∧ vs.length = cs.length ∧ ∀ (j : Nat) (v : Value) (c : Cell S), vs[j]? = some v → cs[j]? = some c → RepV C.E (gh0 (sig W)) W v (encV C.E c.t c.x)
  | [], Ts, vs, ds, ps, hT, h, _ => by
    obtain ⟨rfl, _, _⟩ := trodAll_nil h
    cases Ts with
    | nil => exact ⟨[], ⟨rfl, fun c hc => by cases hc⟩, rfl, fun j v c hv => by simp at hv⟩
    | cons T Ts => simp at hT
  | t :: ts, Ts, vs, ds, ps, hT, h, hok => by
    obtain ⟨v, vs', d, ds', p, q, rfl, rfl, rfl, h1, h2⟩ := trodAll_cons h
    cases Ts with
    | nil => simp at hT
    | cons T Ts =>
      simp only [List.map_cons, List.cons.injEq] at hT
      obtain ⟨x, x1, x2⟩ := read_arg hTab hF hE hT.1 (hok 0 t v rfl rfl) h1
      obtain ⟨cs, ⟨c1, c2⟩, c3, c4⟩ := read_args hTab hF hE ts Ts vs' ds' q hT.2 h2 (fun j t v a b => hok (j + 1) t v a b)
      refine ⟨⟨T, x⟩ :: cs, ⟨by simp [c1], fun c hc => ?_⟩, by simp [c3], fun j u c hu hc => ?_⟩
      · rcases List.mem_cons.1 hc with rfl | hc
        · exact x2
        · exact c2 c hc
      · cases j with
        | zero => simp only [List.getElem?_cons_zero, Option.some.injEq] at hu hc; subst hu hc; exact x1
        | succ j => exact c4 j u c hu hc
theorem shut_args {P : Program} (hl : laidOutB P = true) {W W' : World} (hb : Below W.heap.size W W') : ∀ (ts : List TypeId) (vs : List Value) (ds : List (DataW H)) (ps : List MemPlace), (∀ t, t ∈ ts → P.readableRec t = true ∧ t < P.types.size) →
    DataW.TrodAll enc P W 0 (fun _ => true) true ts vs ds ps → DataW.TrodAll enc P W' 0 (fun b => decide (b < W.heap.size)) true ts vs ds ps
  | [], vs, ds, ps, _, h => by obtain ⟨rfl, rfl, rfl⟩ := trodAll_nil h; exact trodAll_mk0
  | t :: ts, vs, ds, ps, hr, h => by
    obtain ⟨v, vs', d, ds', p, q, rfl, rfl, rfl, h1, h2⟩ := trodAll_cons h
    have hlt : ∀ x ∈ p, x.block < W.heap.size := by obtain ⟨m, hm⟩ := h1; exact DataW.trod_lt m _ _ _ hm
    exact trodAll_cons_mk (Below.trod hl (hr t (by simp)).1 (hr t (by simp)).2 h1 hb hlt) (shut_args hl hb ts vs' ds' q (fun t ht => hr t (by simp [ht])) h2)
end
end Go.Lv
namespace Go.Lv
set_option linter.all false
open Go Go.RowKit Go.ChangeShapes Go.WideShapes Go.ChangeAt
variable {S : Nat → Type}
/-- What package-level variables hold. -/
def glL : List (Nat × List (V S)) → Nat → Option (List (V S))
  | [], _ => none
  | p :: r, g => bif Nat.beq p.1 g then some p.2 else glL r g
theorem glL_mem : ∀ {l : List (Nat × List (V S))} {g : Nat} {cs : List (V S)}, glL l g = some cs → (g, cs) ∈ l
  | [], _, _, h => by cases h
  | p :: r, g, cs, h => by
    unfold glL at h
    cases e : Nat.beq p.1 g with
    | true =>
      rw [e] at h
      have e2 := Nat.eq_of_beq_eq_true e
      simp only [cond_true, Option.some.injEq] at h
      subst h e2
      exact List.mem_cons_self
    | false =>
      rw [e] at h
      exact List.mem_cons_of_mem _ (glL_mem h)
theorem globOK_of {C : Ctx S} {l : List (Nat × List (V S))} {W : World} (hl : C.G = glL l) (h : ∀ p, p ∈ l → RepV C.E (gh0 (sig W)) W (.pointer (some ⟨p.1, 0, none⟩)) (.ro p.2) ∧ 0 < sig W p.1 ∧ ∃ c t f, W.heap[p.1]? = some (.cells c t f) ∧ c.size = p.2.length) : GlobOK C (sig W) W := by
  intro g cs hg
  rw [hl] at hg
  exact h (g, cs) (glL_mem hg)
section
variable {H : Type} {P : Program} {W : World} {k e : TypeId} {R : Value → Option (DataW H × List MemPlace)} {es : Array MapEntry} {clock : Nat}
open Go.WideElems
end
/-- A law's row, where package-level variables hold what the text lays. -/
theorem law_row_laid {H : Type} {enc : TypeId × Value → H} {Kd : Checked} {C : Ctx S} (hP : C.P = Kd.prog) {f : FuncId} {fn : Func} (hfn : Kd.prog.funcs[f]? = some fn) (own : ownKnob Kd.prog.godebug = none) (noInit : Kd.prog.inits.idxOf? f = none) {s : ChangeSpec} (hv : s.vars = [])
    {ps : List TypeId} (hps : fn.params.toList = ps) (hs : ∀ (H : Type) (ds : List (DataW H)), ds.length = ps.length → s.fn H ds = { results := [.lit (.bool true)], args := ds }) {rt : TypeId} (hres : fn.resultTypes = #[rt]) (hrt : Kd.prog.underlying rt = some .bool)
    (laid : laidOutB Kd.prog = true) (hread : ps.all (fun t => Kd.prog.readableRec t && decide (t < Kd.prog.types.size)) = true) {sp : Spec S} (hS : SpecOK C f sp) (hty : ps.map C.ty = sp.args.map some) (hTab : TabOK C) (hF : EnvFill C.E) (hE : EnvOK C.E)
    {X : World → Prop} (hX : ∀ w w' : World, w.heap = w'.heap → X w → X w') (hG : ∀ W, X W → GlobOK C (sig W) W)
    (hlaw : ∀ cs, ArgsOK C.E sp.args cs → ∃ r, sp.run cs = some r ∧ sp.enc r = [⟨.bool, true⟩]) (os : Os) (started : os.Started)
    (witness : ∃ (w : World) (tape : Tape) (i : Input), w.os = os ∧ (w.forCall tape i).Shaped Kd.prog ∧ i.vars = [] ∧ Input.okWide Kd.prog (w.forCall tape i) .any w.heap.size f i ∧
      ((s.pre enc Kd.prog fn [] false (w.forCall tape i).memory i.args ∧ X (w.forCall tape i).memory) ∧ sizedMet enc Kd.prog fn (OpenSpec.ofChange s) false (w.forCall tape i).memory i.args) ∧ ({} : Assume).holds Kd.prog (lone (Frame.enter Kd.prog f i.args .normal) [] (w.forCall tape i))) :
    ReturnsInHanded {} Kd os f .any (fun w args => (s.pre enc Kd.prog fn [] false w args ∧ X w) ∧ sizedMet enc Kd.prog fn (OpenSpec.ofChange s) false w args) (s.post enc Kd.prog fn false true false false) := by
  refine returnsInHanded_of_change_and (C := Kd) (X := fun w _ => X w) (fun w w' _ hh h => hX w w' hh h) own started noInit hfn witness ?_
  intro W base args ds gs before hval hW _ _ hL _
  have hW' := hW
  obtain ⟨p, q, hA, hV, rfl, _, _⟩ := hW
  rw [hv] at hV
  obtain ⟨rfl, rfl⟩ := trodVars_none hV
  rw [hps] at hA
  rw [← hP] at hA
  obtain ⟨cs, c1, c2, c3⟩ := read_args hTab hF hE ps sp.args args.toList ds p hty hA (fun j t v a b => by
    rw [hP]; exact hval j t v (by rw [← hps] at a; simpa using a) (by simpa using b))
  obtain ⟨r, r1, r2⟩ := hlaw cs c1
  have hcalls := hS.2 (sig W) W args cs r (hG W hL) (fun b hb => sig_new b hb) ⟨by simpa using c2, fun j v c a b => c3 j v c (by simpa using a) b⟩ r1
  rw [hP] at hcalls hA
  refine hcalls.mono fun e W' he => ?_
  obtain ⟨v, σ', rfl, bel, _, _, hrep⟩ := he
  rw [r2] at hrep
  have hv' : v = .bool true := by
    simp only [encAll, encV] at hrep
    cases hrep with
    | cell h => exact Rep.bool_inv h
  subst hv'
  have hdl : ds.length = ps.length := by
    have : ∀ (ts : List TypeId) (vs : List Value) (ds : List (DataW H)) (ps : List MemPlace), DataW.TrodAll enc Kd.prog W 0 (fun _ => true) true ts vs ds ps → ds.length = ts.length := by
      intro ts
      induction ts with
      | nil => intro vs ds ps h; obtain ⟨_, rfl, _⟩ := trodAll_nil h; rfl
      | cons t ts ih => intro vs ds ps h; obtain ⟨v, vs', d, ds', p, q, rfl, rfl, rfl, _, h2⟩ := trodAll_cons h; simp [ih _ _ _ h2]
    exact this _ _ _ _ hA
  have hsd : s.fn H (ds ++ []) = { results := [.lit (.bool true)], args := ds } := by rw [List.append_nil]; exact hs H ds hdl
  refine ⟨_, rfl, ds, [], p ++ [], [], p, [], hW', ?_, ?_, ?_, bel.frame _, fun h => by cases h⟩
  · rw [hsd, hres]
    exact trodAll_mk1 (shut_bool hrt true)
  · rw [hsd, hps]
    exact shut_args laid bel ps args.toList ds p (fun t ht => by
      have := (List.all_eq_true.1 hread) t ht
      simpa using this) hA
  · rw [hsd, hv]
    exact rfl
end Go.Lv
namespace Go.Lv.Ld
set_option linter.all false
open Go Go.Lv
structure Block where
  base : Int
  pre : Int
structure Conf where
  block : Block
  held : List Int
  shards : Int
  workers : Int
  queue : Int
  tries : Int
structure Ask where
  kind : Int
  addr : Int
  addrs : List Int
structure Answer where
  err : Int
  addr : Int
  used : Bool
  addrs : List Int
  errs : List Int
structure Oq where
  ask : Ask
  answer : Answer
  phase : Int
  shard : Int
  sought : Int
  leaf : Int
  bit : Int
  word : Int
  full : Bool
  seen : List Int
  at_ : Int
  tries : Int
  item : Int
  stamp : Int
structure Call where
  client : Int
  ask : Ask
  from_ : Int
  to_ : Int
  answer : Answer
structure Event where
  kind : Int
  client : Int
  ask : Int
  item : Int
  at_ : Int
  answer : Answer
def S : Nat → Type
  | 0 => Block
  | 1 => Conf
  | 2 => Ask
  | 3 => Answer
  | 4 => Oq
  | 5 => Call
  | 6 => Event
  | _ => Unit
abbrev i64 : Ty := .int .i64
abbrev u32 : Ty := .int .u32
abbrev u64 : Ty := .int .u64
def blockT : List Ty := [u32, i64]
def confT : List Ty := [u32, i64, .slice i64, i64, i64, i64, i64]
def askT : List Ty := [i64, u32, .slice u32]
def answerT : List Ty := [i64, u32, .bool, .slice u32, .slice i64]
def opT : List Ty := askT ++ answerT ++ [i64, i64, i64, i64, i64, u64, .bool, .slice u64, i64, i64, i64, i64]
def callT : List Ty := [i64] ++ askT ++ [i64, i64] ++ answerT
def eventT : List Ty := [i64, i64, i64, i64, i64] ++ answerT
def tys : Nat → List Ty
  | 0 => blockT
  | 1 => confT
  | 2 => askT
  | 3 => answerT
  | 4 => opT
  | 5 => callT
  | 6 => eventT
  | _ => []
def askC (a : Ask) : List (Cell S) := [⟨i64, a.kind⟩, ⟨u32, a.addr⟩, ⟨.slice u32, a.addrs⟩]
def answerC (a : Answer) : List (Cell S) := [⟨i64, a.err⟩, ⟨u32, a.addr⟩, ⟨.bool, a.used⟩, ⟨.slice u32, a.addrs⟩, ⟨.slice i64, a.errs⟩]
def toC : (i : Nat) → S i → List (Cell S)
  | 0, (b : Block) => [⟨u32, b.base⟩, ⟨i64, b.pre⟩]
  | 1, (c : Conf) => [⟨u32, c.block.base⟩, ⟨i64, c.block.pre⟩, ⟨.slice i64, c.held⟩, ⟨i64, c.shards⟩, ⟨i64, c.workers⟩, ⟨i64, c.queue⟩, ⟨i64, c.tries⟩]
  | 2, (a : Ask) => askC a
  | 3, (a : Answer) => answerC a
  | 4, (o : Oq) => askC o.ask ++ answerC o.answer ++ [⟨i64, o.phase⟩, ⟨i64, o.shard⟩, ⟨i64, o.sought⟩, ⟨i64, o.leaf⟩, ⟨i64, o.bit⟩, ⟨u64, o.word⟩, ⟨.bool, o.full⟩, ⟨.slice u64, o.seen⟩, ⟨i64, o.at_⟩, ⟨i64, o.tries⟩, ⟨i64, o.item⟩, ⟨i64, o.stamp⟩]
  | 5, (c : Call) => [⟨i64, c.client⟩] ++ askC c.ask ++ [⟨i64, c.from_⟩, ⟨i64, c.to_⟩] ++ answerC c.answer
  | 6, (e : Event) => [⟨i64, e.kind⟩, ⟨i64, e.client⟩, ⟨i64, e.ask⟩, ⟨i64, e.item⟩, ⟨i64, e.at_⟩] ++ answerC e.answer
  | _, _ => []
section
variable {α : Type} (d : (t : Ty) → α → Option (den S t))
def blockO : List α → Option Block
  | [a, b] => (d u32 a).bind fun x => (d i64 b).bind fun y => some ⟨x, y⟩
  | _ => none
def askO : List α → Option Ask
  | [a, b, c] => (d i64 a).bind fun x => (d u32 b).bind fun y => (d (.slice u32) c).bind fun z => some ⟨x, y, z⟩
  | _ => none
def answerO : List α → Option Answer
  | [a, b, c, e, f] => (d i64 a).bind fun x => (d u32 b).bind fun y => (d .bool c).bind fun z => (d (.slice u32) e).bind fun u => (d (.slice i64) f).bind fun v => some ⟨x, y, z, u, v⟩
  | _ => none
def confO : List α → Option Conf
  | [a, b, c, e, f, g, h] => (blockO d [a, b]).bind fun bl => (d (.slice i64) c).bind fun x3 => (d i64 e).bind fun x4 => (d i64 f).bind fun x5 => (d i64 g).bind fun x6 => (d i64 h).bind fun x7 => some ⟨bl, x3, x4, x5, x6, x7⟩
  | _ => none
def opO : List α → Option Oq
  | [a1, a2, a3, b1, b2, b3, b4, b5, c1, c2, c3, c4, c5, c6, c7, c8, c9, c10, c11, c12] =>
    (askO d [a1, a2, a3]).bind fun a => (answerO d [b1, b2, b3, b4, b5]).bind fun b => (d i64 c1).bind fun x1 => (d i64 c2).bind fun x2 => (d i64 c3).bind fun x3 => (d i64 c4).bind fun x4 => (d i64 c5).bind fun x5 =>
    (d u64 c6).bind fun x6 => (d .bool c7).bind fun x7 => (d (.slice u64) c8).bind fun x8 => (d i64 c9).bind fun x9 => (d i64 c10).bind fun x10 => (d i64 c11).bind fun x11 => (d i64 c12).bind fun x12 =>
    some ⟨a, b, x1, x2, x3, x4, x5, x6, x7, x8, x9, x10, x11, x12⟩
  | _ => none
def callO : List α → Option Call
  | [c, a1, a2, a3, f, t, b1, b2, b3, b4, b5] => (d i64 c).bind fun x => (askO d [a1, a2, a3]).bind fun a => (d i64 f).bind fun y => (d i64 t).bind fun z => (answerO d [b1, b2, b3, b4, b5]).bind fun b => some ⟨x, a, y, z, b⟩
  | _ => none
def eventO : List α → Option Event
  | [k, c, a, i, t, b1, b2, b3, b4, b5] => (d i64 k).bind fun x1 => (d i64 c).bind fun x2 => (d i64 a).bind fun x3 => (d i64 i).bind fun x4 => (d i64 t).bind fun x5 => (answerO d [b1, b2, b3, b4, b5]).bind fun b => some ⟨x1, x2, x3, x4, x5, b⟩
  | _ => none
def ofC : (i : Nat) → List α → Option (S i)
  | 0, l => blockO d l
  | 1, l => confO d l
  | 2, l => askO d l
  | 3, l => answerO d l
  | 4, l => opO d l
  | 5, l => callO d l
  | 6, l => eventO d l
  | _, _ => none
end
def E : Env S := { tys := tys, toC := toC, ofC := fun i _ d l => ofC d i l }
end Go.Lv.Ld
namespace Go.Lv.Ld
set_option linter.all false
open Go Go.Lv
/-- Each cell is told by its value. -/
inductive Bk {α : Type} (d : (t : Ty) → α → Option (den S t)) : List α → List (Cell S) → Prop where
  | nil : Bk d [] []
  | cons {t : Ty} {x : den S t} {v : α} {vs : List α} {cs : List (Cell S)} (h : d t v = some x) (hs : Bk d vs cs) : Bk d (v :: vs) (⟨t, x⟩ :: cs)
theorem Bk.len {α : Type} {d : (t : Ty) → α → Option (den S t)} {vs : List α} {cs : List (Cell S)} (h : Bk d vs cs) : vs.length = cs.length := by
  induction h with
  | nil => rfl
  | cons h hs ih => simp [ih]
theorem Bk.get {α : Type} {d : (t : Ty) → α → Option (den S t)} {vs : List α} {cs : List (Cell S)} (h : Bk d vs cs) : ∀ (j : Nat) (v : α) (c : Cell S), vs[j]? = some v → cs[j]? = some c → d c.t v = some c.x := by
  induction h with
  | nil => intro j v c h; simp at h
  | cons h hs ih =>
    intro j v c p q
    cases j with
    | zero => simp only [List.getElem?_cons_zero, Option.some.injEq] at p q; subst p q; exact h
    | succ j => exact ih j v c p q
theorem Bk.app {α : Type} {d : (t : Ty) → α → Option (den S t)} {vs : List α} {cs : List (Cell S)} (h : Bk d vs cs) {vs' : List α} {cs' : List (Cell S)} (h' : Bk d vs' cs') : Bk d (vs ++ vs') (cs ++ cs') := by
  induction h with
  | nil => exact h'
  | cons h hs ih => exact .cons h ih
theorem bs {α β : Type} {o : Option α} {f : α → Option β} {b : β} (h : o.bind f = some b) : ∃ a, o = some a ∧ f a = some b := by
  cases o with
  | none => cases h
  | some a => exact ⟨a, rfl, h⟩
section
variable {α : Type} {d : (t : Ty) → α → Option (den S t)}
theorem blockB {vs : List α} {x : Block} (h : blockO d vs = some x) : Bk d vs [⟨u32, x.base⟩, ⟨i64, x.pre⟩] := by
  unfold blockO at h
  split at h
  · obtain ⟨a, h1, h⟩ := bs h
    obtain ⟨b, h2, h⟩ := bs h
    cases h
    exact .cons h1 (.cons h2 .nil)
  · cases h
theorem askB {vs : List α} {x : Ask} (h : askO d vs = some x) : Bk d vs (askC x) := by
  unfold askO at h
  split at h
  · obtain ⟨a, h1, h⟩ := bs h
    obtain ⟨b, h2, h⟩ := bs h
    obtain ⟨c, h3, h⟩ := bs h
    cases h
    exact .cons h1 (.cons h2 (.cons h3 .nil))
  · cases h
theorem answerB {vs : List α} {x : Answer} (h : answerO d vs = some x) : Bk d vs (answerC x) := by
  unfold answerO at h
  split at h
  · obtain ⟨a, h1, h⟩ := bs h
    obtain ⟨b, h2, h⟩ := bs h
    obtain ⟨c, h3, h⟩ := bs h
    obtain ⟨e, h4, h⟩ := bs h
    obtain ⟨f, h5, h⟩ := bs h
    cases h
    exact .cons h1 (.cons h2 (.cons h3 (.cons h4 (.cons h5 .nil))))
  · cases h
theorem confB {vs : List α} {x : Conf} (h : confO d vs = some x) : Bk d vs (toC 1 x) := by
  unfold confO at h
  split at h
  · obtain ⟨a, h1, h⟩ := bs h
    obtain ⟨x3, h3, h⟩ := bs h
    obtain ⟨x4, h4, h⟩ := bs h
    obtain ⟨x5, h5, h⟩ := bs h
    obtain ⟨x6, h6, h⟩ := bs h
    obtain ⟨x7, h7, h⟩ := bs h
    cases h
    have := blockB h1
    exact this.app (vs' := [_, _, _, _, _]) (.cons h3 (.cons h4 (.cons h5 (.cons h6 (.cons h7 .nil)))))
  · cases h
theorem opB {vs : List α} {x : Oq} (h : opO d vs = some x) : Bk d vs (toC 4 x) := by
  unfold opO at h
  split at h
  · obtain ⟨a, ha, h⟩ := bs h
    obtain ⟨b, hb, h⟩ := bs h
    obtain ⟨x1, h1, h⟩ := bs h
    obtain ⟨x2, h2, h⟩ := bs h
    obtain ⟨x3, h3, h⟩ := bs h
    obtain ⟨x4, h4, h⟩ := bs h
    obtain ⟨x5, h5, h⟩ := bs h
    obtain ⟨x6, h6, h⟩ := bs h
    obtain ⟨x7, h7, h⟩ := bs h
    obtain ⟨x8, h8, h⟩ := bs h
    obtain ⟨x9, h9, h⟩ := bs h
    obtain ⟨x10, h10, h⟩ := bs h
    obtain ⟨x11, h11, h⟩ := bs h
    obtain ⟨x12, h12, h⟩ := bs h
    cases h
    exact ((askB ha).app (answerB hb)).app (.cons h1 (.cons h2 (.cons h3 (.cons h4 (.cons h5 (.cons h6 (.cons h7 (.cons h8 (.cons h9 (.cons h10 (.cons h11 (.cons h12 .nil))))))))))))
  · cases h
theorem callB {vs : List α} {x : Call} (h : callO d vs = some x) : Bk d vs (toC 5 x) := by
  unfold callO at h
  split at h
  · obtain ⟨x1, h1, h⟩ := bs h
    obtain ⟨a, ha, h⟩ := bs h
    obtain ⟨y, h2, h⟩ := bs h
    obtain ⟨z, h3, h⟩ := bs h
    obtain ⟨b, hb, h⟩ := bs h
    cases h
    exact .cons h1 ((askB ha).app (.cons h2 (.cons h3 (answerB hb))))
  · cases h
theorem eventB {vs : List α} {x : Event} (h : eventO d vs = some x) : Bk d vs (toC 6 x) := by
  unfold eventO at h
  split at h
  · obtain ⟨x1, h1, h⟩ := bs h
    obtain ⟨x2, h2, h⟩ := bs h
    obtain ⟨x3, h3, h⟩ := bs h
    obtain ⟨x4, h4, h⟩ := bs h
    obtain ⟨x5, h5, h⟩ := bs h
    obtain ⟨b, hb, h⟩ := bs h
    cases h
    exact .cons h1 (.cons h2 (.cons h3 (.cons h4 (.cons h5 (answerB hb)))))
  · cases h
end
theorem typed (i : Nat) (x : S i) : (toC i x).map (·.t) = tys i := by
  match i, x with
  | 0, x => rfl
  | 1, x => rfl
  | 2, x => rfl
  | 3, x => rfl
  | 4, x => rfl
  | 5, x => rfl
  | 6, x => rfl
  | _ + 7, x => rfl
def isSt : Ty → Bool
  | .st _ => true
  | _ => false
theorem noSt (i : Nat) : (tys i).all (fun t => !isSt t) = true := by
  match i with
  | 0 => rfl
  | 1 => rfl
  | 2 => rfl
  | 3 => rfl
  | 4 => rfl
  | 5 => rfl
  | 6 => rfl
  | _ + 7 => rfl
theorem backB {α : Type} {d : (t : Ty) → α → Option (den S t)} (i : Nat) (vs : List α) (x : S i) (h : ofC d i vs = some x) : Bk d vs (toC i x) := by
  match i, x, h with
  | 0, x, h => exact blockB h
  | 1, x, h => exact confB h
  | 2, x, h => exact askB h
  | 3, x, h => exact answerB h
  | 4, x, h => exact opB h
  | 5, x, h => exact callB h
  | 6, x, h => exact eventB h
  | n + 7, x, h => exact absurd ((show (none : Option (S (n + 7))) = some x from h)) (by intro q; cases q)
theorem backOK (i : Nat) {α : Type} (d : (t : Ty) → α → Option (den S t)) (vs : List α) (x : S i) (h : ofC d i vs = some x) :
    vs.length = (tys i).length ∧ ∀ (j : Nat) (v : α) (c : Cell S), vs[j]? = some v → (toC i x)[j]? = some c → d c.t v = some c.x := by
  have hb : Bk d vs (toC i x) := backB i vs x h
  have h1 : (toC i x).length = ((toC i x).map (·.t)).length := by rw [List.length_map]
  rw [typed] at h1
  exact ⟨hb.len.trans h1, hb.get⟩
theorem bind_mono {α β : Type} {o o' : Option α} {f f' : α → Option β} {b : β} (h : ∀ a, o = some a → o' = some a) (hf : ∀ a, f a = some b → f' a = some b) (hb : o.bind f = some b) : o'.bind f' = some b := by
  obtain ⟨a, h1, h2⟩ := bs hb
  rw [h a h1]; exact hf a h2
set_option maxHeartbeats 4000000 in
theorem monoOK (i : Nat) {α : Type} (d d' : (t : Ty) → α → Option (den S t)) (vs : List α) (x : S i) (hd : ∀ t v y, d t v = some y → d' t v = some y) (h : ofC d i vs = some x) : ofC d' i vs = some x := by
  have hB : ∀ (l : List α) (x : Block), blockO d l = some x → blockO d' l = some x := by
    intro l x h; unfold blockO at h ⊢
    split at h
    · exact bind_mono (hd _ _) (fun _ => bind_mono (hd _ _) (fun _ => id)) h
    · cases h
  have hA : ∀ (l : List α) (x : Ask), askO d l = some x → askO d' l = some x := by
    intro l x h; unfold askO at h ⊢
    split at h
    · exact bind_mono (hd _ _) (fun _ => bind_mono (hd _ _) (fun _ => bind_mono (hd _ _) (fun _ => id))) h
    · cases h
  have hN : ∀ (l : List α) (x : Answer), answerO d l = some x → answerO d' l = some x := by
    intro l x h; unfold answerO at h ⊢
    split at h
    · exact bind_mono (hd _ _) (fun _ => bind_mono (hd _ _) (fun _ => bind_mono (hd _ _) (fun _ => bind_mono (hd _ _) (fun _ => bind_mono (hd _ _) (fun _ => id))))) h
    · cases h
  match i, x, h with
  | 0, x, h => exact hB vs x h
  | 1, x, h =>
    show confO d' vs = some x
    have h : confO d vs = some x := h
    unfold confO at h ⊢
    split at h
    · exact bind_mono (fun _ => hB _ _) (fun _ => bind_mono (hd _ _) (fun _ => bind_mono (hd _ _) (fun _ => bind_mono (hd _ _) (fun _ => bind_mono (hd _ _) (fun _ => bind_mono (hd _ _) (fun _ => id)))))) h
    · cases h
  | 2, x, h => exact hA vs x h
  | 3, x, h => exact hN vs x h
  | 4, x, h =>
    show opO d' vs = some x
    have h : opO d vs = some x := h
    unfold opO at h ⊢
    split at h
    · exact bind_mono (fun _ => hA _ _) (fun _ => bind_mono (fun _ => hN _ _) (fun _ => bind_mono (hd _ _) (fun _ => bind_mono (hd _ _) (fun _ => bind_mono (hd _ _) (fun _ => bind_mono (hd _ _) (fun _ => bind_mono (hd _ _) (fun _ => bind_mono (hd _ _) (fun _ => bind_mono (hd _ _) (fun _ => bind_mono (hd _ _) (fun _ => bind_mono (hd _ _) (fun _ => bind_mono (hd _ _) (fun _ => bind_mono (hd _ _) (fun _ => bind_mono (hd _ _) (fun _ => id)))))))))))))) h
    · cases h
  | 5, x, h =>
    show callO d' vs = some x
    have h : callO d vs = some x := h
    unfold callO at h ⊢
    split at h
    · exact bind_mono (hd _ _) (fun _ => bind_mono (fun _ => hA _ _) (fun _ => bind_mono (hd _ _) (fun _ => bind_mono (hd _ _) (fun _ => bind_mono (fun _ => hN _ _) (fun _ => id))))) h
    · cases h
  | 6, x, h =>
    show eventO d' vs = some x
    have h : eventO d vs = some x := h
    unfold eventO at h ⊢
    split at h
    · exact bind_mono (hd _ _) (fun _ => bind_mono (hd _ _) (fun _ => bind_mono (hd _ _) (fun _ => bind_mono (hd _ _) (fun _ => bind_mono (hd _ _) (fun _ => bind_mono (fun _ => hN _ _) (fun _ => id)))))) h
    · cases h
  | (n + 7), x, h => exact nomatch (show (none : Option (S (n + 7))) = some x from h)
theorem congOK (i : Nat) {α : Type} (d d' : (t : Ty) → α → Option (den S t)) (vs : List α) (h : ∀ v, v ∈ vs → ∀ t, d t v = d' t v) : ofC d i vs = ofC d' i vs := by
  match i with
  | 0 =>
    show blockO d vs = blockO d' vs
    unfold blockO; split
    · simp only [h _ (List.mem_cons_self ..), h _ (List.mem_cons_of_mem _ (List.mem_cons_self ..))]
    · rfl
  | 1 =>
    show confO d vs = confO d' vs
    unfold confO; split
    · simp only [List.forall_mem_cons] at h
      simp only [blockO, h]
    · rfl
  | 2 =>
    show askO d vs = askO d' vs
    unfold askO; split
    · simp only [List.forall_mem_cons] at h
      simp only [h]
    · rfl
  | 3 =>
    show answerO d vs = answerO d' vs
    unfold answerO; split
    · simp only [List.forall_mem_cons] at h
      simp only [h]
    · rfl
  | 4 =>
    show opO d vs = opO d' vs
    unfold opO; split
    · simp only [List.forall_mem_cons] at h
      simp only [askO, answerO, h]
    · rfl
  | 5 =>
    show callO d vs = callO d' vs
    unfold callO; split
    · simp only [List.forall_mem_cons] at h
      simp only [askO, answerO, h]
    · rfl
  | 6 =>
    show eventO d vs = eventO d' vs
    unfold eventO; split
    · simp only [List.forall_mem_cons] at h
      simp only [answerO, h]
    · rfl
  | n + 7 => rfl
theorem envOK : EnvOK E where
  cong i α d d' vs h := congOK i d d' vs h
  mono i α d d' vs x hd h := monoOK i d d' vs x hd h
  typed := typed
  leaf i t h n := by
    have := (List.all_eq_true.1 (noSt i)) t h
    intro e
    rw [e] at this
    cases this
  back i {α} d vs x h := backOK i d vs x h
theorem cut {t : Ty} {ts : List Ty} {cells : List (Cell S)} (h : cells.map (·.t) = t :: ts) : ∃ (x : den S t) (r : List (Cell S)), cells = ⟨t, x⟩ :: r ∧ r.map (·.t) = ts := by
  cases cells with
  | nil => cases h
  | cons c r =>
    simp only [List.map_cons, List.cons.injEq] at h
    obtain ⟨rfl, h⟩ := h
    exact ⟨c.x, r, rfl, h⟩
theorem cutN {cells : List (Cell S)} (h : cells.map (·.t) = []) : cells = [] := by simpa using h
theorem envFill : EnvFill E := by
  intro i cells h
  match i, h with
  | 0, h =>
    obtain ⟨a, r1, e1, h1⟩ := cut h
    obtain ⟨b, r2, e2, h2⟩ := cut h1
    have e0 := cutN h2
    subst e0
    subst e2
    subst e1
    exact ⟨(⟨a, b⟩ : Block), rfl⟩
  | 1, h =>
    obtain ⟨a, r1, e1, h1⟩ := cut h
    obtain ⟨b, r2, e2, h2⟩ := cut h1
    obtain ⟨c, r3, e3, h3⟩ := cut h2
    obtain ⟨d, r4, e4, h4⟩ := cut h3
    obtain ⟨e, r5, e5, h5⟩ := cut h4
    obtain ⟨f, r6, e6, h6⟩ := cut h5
    obtain ⟨g, r7, e7, h7⟩ := cut h6
    have e0 := cutN h7
    subst e0
    subst e7
    subst e6
    subst e5
    subst e4
    subst e3
    subst e2
    subst e1
    exact ⟨(⟨⟨a, b⟩, c, d, e, f, g⟩ : Conf), rfl⟩
  | 2, h =>
    obtain ⟨a, r1, e1, h1⟩ := cut h
    obtain ⟨b, r2, e2, h2⟩ := cut h1
    obtain ⟨c, r3, e3, h3⟩ := cut h2
    have e0 := cutN h3
    subst e0
    subst e3
    subst e2
    subst e1
    exact ⟨(⟨a, b, c⟩ : Ask), rfl⟩
  | 3, h =>
    obtain ⟨a, r1, e1, h1⟩ := cut h
    obtain ⟨b, r2, e2, h2⟩ := cut h1
    obtain ⟨c, r3, e3, h3⟩ := cut h2
    obtain ⟨d, r4, e4, h4⟩ := cut h3
    obtain ⟨e, r5, e5, h5⟩ := cut h4
    have e0 := cutN h5
    subst e0
    subst e5
    subst e4
    subst e3
    subst e2
    subst e1
    exact ⟨(⟨a, b, c, d, e⟩ : Answer), rfl⟩
  | 4, h =>
    obtain ⟨a1, r1, e1, h1⟩ := cut h
    obtain ⟨a2, r2, e2, h2⟩ := cut h1
    obtain ⟨a3, r3, e3, h3⟩ := cut h2
    obtain ⟨b1, r4, e4, h4⟩ := cut h3
    obtain ⟨b2, r5, e5, h5⟩ := cut h4
    obtain ⟨b3, r6, e6, h6⟩ := cut h5
    obtain ⟨b4, r7, e7, h7⟩ := cut h6
    obtain ⟨b5, r8, e8, h8⟩ := cut h7
    obtain ⟨c1, r9, e9, h9⟩ := cut h8
    obtain ⟨c2, r10, e10, h10⟩ := cut h9
    obtain ⟨c3, r11, e11, h11⟩ := cut h10
    obtain ⟨c4, r12, e12, h12⟩ := cut h11
    obtain ⟨c5, r13, e13, h13⟩ := cut h12
    obtain ⟨c6, r14, e14, h14⟩ := cut h13
    obtain ⟨c7, r15, e15, h15⟩ := cut h14
    obtain ⟨c8, r16, e16, h16⟩ := cut h15
    obtain ⟨c9, r17, e17, h17⟩ := cut h16
    obtain ⟨c10, r18, e18, h18⟩ := cut h17
    obtain ⟨c11, r19, e19, h19⟩ := cut h18
    obtain ⟨c12, r20, e20, h20⟩ := cut h19
    have e0 := cutN h20
    subst e0
    subst e20
    subst e19
    subst e18
    subst e17
    subst e16
    subst e15
    subst e14
    subst e13
    subst e12
    subst e11
    subst e10
    subst e9
    subst e8
    subst e7
    subst e6
    subst e5
    subst e4
    subst e3
    subst e2
    subst e1
    exact ⟨(⟨⟨a1, a2, a3⟩, ⟨b1, b2, b3, b4, b5⟩, c1, c2, c3, c4, c5, c6, c7, c8, c9, c10, c11, c12⟩ : Oq), rfl⟩
  | 5, h =>
    obtain ⟨a, r1, e1, h1⟩ := cut h
    obtain ⟨a1, r2, e2, h2⟩ := cut h1
    obtain ⟨a2, r3, e3, h3⟩ := cut h2
    obtain ⟨a3, r4, e4, h4⟩ := cut h3
    obtain ⟨f, r5, e5, h5⟩ := cut h4
    obtain ⟨t, r6, e6, h6⟩ := cut h5
    obtain ⟨b1, r7, e7, h7⟩ := cut h6
    obtain ⟨b2, r8, e8, h8⟩ := cut h7
    obtain ⟨b3, r9, e9, h9⟩ := cut h8
    obtain ⟨b4, r10, e10, h10⟩ := cut h9
    obtain ⟨b5, r11, e11, h11⟩ := cut h10
    have e0 := cutN h11
    subst e0
    subst e11
    subst e10
    subst e9
    subst e8
    subst e7
    subst e6
    subst e5
    subst e4
    subst e3
    subst e2
    subst e1
    exact ⟨(⟨a, ⟨a1, a2, a3⟩, f, t, ⟨b1, b2, b3, b4, b5⟩⟩ : Call), rfl⟩
  | 6, h =>
    obtain ⟨a1, r1, e1, h1⟩ := cut h
    obtain ⟨a2, r2, e2, h2⟩ := cut h1
    obtain ⟨a3, r3, e3, h3⟩ := cut h2
    obtain ⟨a4, r4, e4, h4⟩ := cut h3
    obtain ⟨a5, r5, e5, h5⟩ := cut h4
    obtain ⟨b1, r6, e6, h6⟩ := cut h5
    obtain ⟨b2, r7, e7, h7⟩ := cut h6
    obtain ⟨b3, r8, e8, h8⟩ := cut h7
    obtain ⟨b4, r9, e9, h9⟩ := cut h8
    obtain ⟨b5, r10, e10, h10⟩ := cut h9
    have e0 := cutN h10
    subst e0
    subst e10
    subst e9
    subst e8
    subst e7
    subst e6
    subst e5
    subst e4
    subst e3
    subst e2
    subst e1
    exact ⟨(⟨a1, a2, a3, a4, a5, ⟨b1, b2, b3, b4, b5⟩⟩ : Event), rfl⟩
  | _ + 7, h => exact ⟨(() : Unit), (cutN h).symm⟩
end Go.Lv.Ld
namespace Go.Lv
set_option linter.all false
open Go
variable {S : Nat → Type}
def res1 (t : Ty) (cs : List (Cell S)) : Option (den S t) := match cs with | [c] => c.as t | _ => none
def res2 (t u : Ty) (cs : List (Cell S)) : Option (den S t × den S u) := match cs with | [c, d] => (c.as t).bind fun x => (d.as u).bind fun y => some (x, y) | _ => none
def enc1 (t : Ty) : den S t → List (Cell S) := fun x => [⟨t, x⟩]
def enc2 (t u : Ty) : den S t × den S u → List (Cell S) := fun p => [⟨t, p.1⟩, ⟨u, p.2⟩]
theorem as_inv {c : Cell S} {t : Ty} {x : den S t} (h : c.as t = some x) : c = ⟨t, x⟩ := by
  obtain ⟨u, y⟩ := c
  unfold Cell.as at h
  split at h
  · rename_i e
    simp only at e
    subst e
    simp only [Option.some.injEq] at h
    rw [h]
  · cases h
theorem bsome {α β : Type} {o : Option α} {f : α → Option β} {b : β} (h : o.bind f = some b) : ∃ a, o = some a ∧ f a = some b := by
  cases o with
  | none => cases h
  | some a => exact ⟨a, rfl, h⟩
theorem de1 (t : Ty) (cs : List (Cell S)) (r : den S t) (h : res1 t cs = some r) : cs = enc1 t r := by
  unfold res1 at h; split at h
  · rw [as_inv h]; rfl
  · cases h
theorem de2 (t u : Ty) (cs : List (Cell S)) (r : den S t × den S u) (h : res2 t u cs = some r) : cs = enc2 t u r := by
  unfold res2 at h; split at h
  · obtain ⟨x, h1, h⟩ := bsome h
    obtain ⟨y, h2, h⟩ := bsome h
    cases h
    rw [as_inv h1, as_inv h2]; rfl
  · cases h
section
variable {R : Type}
def run0 (F : Option R) : List (Cell S) → Option R
  | [] => F
  | _ => none
def run1 (a : Ty) (F : den S a → Option R) : List (Cell S) → Option R
  | [x] => (x.as a).bind F
  | _ => none
def run2 (a b : Ty) (F : den S a → den S b → Option R) : List (Cell S) → Option R
  | [x, y] => (x.as a).bind fun p => (y.as b).bind fun q => F p q
  | _ => none
def run3 (a b c : Ty) (F : den S a → den S b → den S c → Option R) : List (Cell S) → Option R
  | [x, y, z] => (x.as a).bind fun p => (y.as b).bind fun q => (z.as c).bind fun r => F p q r
  | _ => none
theorem inv0 {F : Option R} {cs : List (Cell S)} {r : R} (h : run0 F cs = some r) : cs = [] ∧ F = some r := by
  unfold run0 at h; split at h
  · exact ⟨rfl, h⟩
  · cases h
theorem inv1 {a : Ty} {F : den S a → Option R} {cs : List (Cell S)} {r : R} (h : run1 a F cs = some r) : ∃ p, cs = [⟨a, p⟩] ∧ F p = some r := by
  unfold run1 at h; split at h
  · obtain ⟨p, h1, h⟩ := bsome h
    exact ⟨p, by rw [as_inv h1], h⟩
  · cases h
theorem inv2 {a b : Ty} {F : den S a → den S b → Option R} {cs : List (Cell S)} {r : R} (h : run2 a b F cs = some r) : ∃ p q, cs = [⟨a, p⟩, ⟨b, q⟩] ∧ F p q = some r := by
  unfold run2 at h; split at h
  · obtain ⟨p, h1, h⟩ := bsome h
    obtain ⟨q, h2, h⟩ := bsome h
    exact ⟨p, q, by rw [as_inv h1, as_inv h2], h⟩
  · cases h
theorem inv3 {a b c : Ty} {F : den S a → den S b → den S c → Option R} {cs : List (Cell S)} {r : R} (h : run3 a b c F cs = some r) : ∃ p q s, cs = [⟨a, p⟩, ⟨b, q⟩, ⟨c, s⟩] ∧ F p q s = some r := by
  unfold run3 at h; split at h
  · obtain ⟨p, h1, h⟩ := bsome h
    obtain ⟨q, h2, h⟩ := bsome h
    obtain ⟨s, h3, h⟩ := bsome h
    exact ⟨p, q, s, by rw [as_inv h1, as_inv h2, as_inv h3], h⟩
  · cases h
end
/-! The tables of a program. -/
def tyL : List (Nat × Ty) → Nat → Option Ty
  | [], _ => none
  | p :: r, t => bif Nat.beq t p.1 then some p.2 else tyL r t
theorem tyL_mem : ∀ {l : List (Nat × Ty)} {t : Nat} {T : Ty}, tyL l t = some T → (t, T) ∈ l
  | [], _, _, h => by cases h
  | p :: r, t, T, h => by
    unfold tyL at h
    cases hb : Nat.beq t p.1 with
    | true => rw [hb] at h; simp only [cond_true, Option.some.injEq] at h; have := Nat.eq_of_beq_eq_true hb; subst this; subst h; exact List.mem_cons_self
    | false => rw [hb] at h; exact List.mem_cons_of_mem _ (tyL_mem h)
def spL : List (Nat × Spec S) → Nat → Option (Spec S)
  | [], _ => none
  | p :: r, t => bif Nat.beq t p.1 then some p.2 else spL r t
theorem spL_mem : ∀ {l : List (Nat × Spec S)} {t : Nat} {T : Spec S}, spL l t = some T → (t, T) ∈ l
  | [], _, _, h => by cases h
  | p :: r, t, T, h => by
    unfold spL at h
    cases hb : Nat.beq t p.1 with
    | true => rw [hb] at h; simp only [cond_true, Option.some.injEq] at h; have := Nat.eq_of_beq_eq_true hb; subst this; subst h; exact List.mem_cons_self
    | false => rw [hb] at h; exact List.mem_cons_of_mem _ (spL_mem h)
def inL : List Nat → Nat → Bool
  | [], _ => false
  | p :: r, t => bif Nat.beq t p then true else inL r t
theorem inL_mem : ∀ {l : List Nat} {t : Nat}, inL l t = true → t ∈ l
  | [], _, h => by cases h
  | p :: r, t, h => by
    unfold inL at h
    cases hb : Nat.beq t p with
    | true => have := Nat.eq_of_beq_eq_true hb; subst this; exact List.mem_cons_self
    | false => rw [hb] at h; exact List.mem_cons_of_mem _ (inL_mem h)
def tyB (P : Program) (E : Env S) (p : Nat × Ty) : Bool := match P.info? p.1 with
  | some i => (match i.zero with
    | some z => z.cells.size == i.size
    | none => false) && i.size == tsize E p.2 && decide (0 < i.size) && decide (i.bytes ≤ 1024)
  | none => false
def tabB (P : Program) (E : Env S) (ty : TypeId → Option Ty) (p : Nat × Ty) : Bool :=
  decide (flat P ty 12 p.1 = some (cellTys E p.2)) && decide (0 < tsize E p.2) && (isStr P p.1 == isStT p.2)
theorem tyOK_of {C : Ctx S} {l : List (Nat × Ty)} (hl : C.ty = tyL l) (h : l.all (tyB C.P C.E) = true) : TyOK C := by
  intro e T ht
  rw [hl] at ht
  have := (List.all_eq_true.1 h) _ (tyL_mem ht)
  unfold tyB at this
  simp only at this
  cases hi : C.P.info? e with
  | none => rw [hi] at this; cases this
  | some i =>
    rw [hi] at this
    simp only [Bool.and_eq_true] at this
    obtain ⟨⟨⟨h1, h2⟩, h3⟩, h4⟩ := this
    cases hz : i.zero with
    | none => rw [hz] at h1; cases h1
    | some z =>
      rw [hz] at h1
      exact ⟨i, z, rfl, by simpa using h2, hz, by simpa using h1, by simpa using h3, by simpa using h4⟩
theorem tabOK_of {C : Ctx S} {l : List (Nat × Ty)} (hl : C.ty = tyL l) (h : l.all (tabB C.P C.E C.ty) = true) : TabOK C := by
  intro t T ht
  rw [hl] at ht
  have := (List.all_eq_true.1 h) _ (tyL_mem ht)
  unfold tabB at this
  simp only [Bool.and_eq_true] at this
  obtain ⟨⟨h1, h2⟩, h3⟩ := this
  exact ⟨⟨12, by simpa using h1⟩, by simpa using h2, by simpa using h3⟩
theorem SpecOK.re {C C' : Ctx S} (hP : C'.P = C.P) (hE : C'.E = C.E) (hG : C'.G = C.G) {f : FuncId} {sp : Spec S} (h : SpecOK C f sp) : SpecOK C' f sp := by
  unfold SpecOK GlobOK at h ⊢
  rw [hP, hE, hG]; exact h
end Go.Lv
namespace Go.Lv
set_option linter.all false
open Go Go.RowKit
variable {S : Nat → Type}
/-! What a state is turned to at a loop's head. -/
section
variable (m : Mem S) (kp : Nat → Bool)
def conv0 : V S → V S
  | .own id g => bif kp id then (match m[id]? with
    | some (.arr _ _ _ g' _) => bif Nat.beq g g' then .own id 0 else .undef
    | _ => .undef) else .undef
  | .ptr id off => bif kp id then (match m[id]? with
    | some (.box _ _) => .ptr id off
    | _ => .undef) else .undef
  | .cell t x => .cell t x
  | .full t l => .full t l
  | .nilS => .nilS
  | .mapr id => bif kp id then (match m[id]? with
    | some (.map _ _ _) => .mapr id
    | _ => .undef) else .undef
  | .yld id => bif kp id then (match m[id]? with
    | some (.oth _) => .yld id
    | _ => .undef) else .undef
  | _ => .undef
def convL : V S → V S
  | .agg cs => .agg (cs.map (conv0 m kp))
  | .clo f a b => .clo f (a.map (conv0 m kp)) (b.map (conv0 m kp))
  | v => conv0 m kp v
def convOb (i : Nat) : Ob S → Ob S
  | .box cs fz => .box (bif kp i then cs.map (convL m kp) else cs.map fun _ => .undef) fz
  | .arr e t l _ fz => bif kp i then .arr e t l 0 fz else .arr e t [] 0 fz
  | .map k v l => bif kp i then .map k v l else .arr 0 .bool [] 0 true
  | .oth o => bif kp i then .oth o else .arr 0 .bool [] 0 true
def convM : Nat → Mem S → Mem S
  | _, [] => []
  | i, o :: r => convOb m kp i o :: convM (i + 1) r
def convT (sl : Nat → Bool) : Nat → List (V S) → List (V S)
  | _, [] => []
  | i, v :: r => (bif sl i then convL m kp v else .undef) :: convT sl (i + 1) r
end
theorem convM_get (m : Mem S) (kp : Nat → Bool) : ∀ (l : Mem S) (i j : Nat), (convM m kp i l)[j]? = (l[j]?).map (convOb m kp (i + j))
  | [], i, j => by simp [convM]
  | o :: r, i, 0 => by simp [convM]
  | o :: r, i, j + 1 => by simp only [convM, List.getElem?_cons_succ]; rw [convM_get m kp r (i + 1) j]; congr 2; omega
theorem convM_len (m : Mem S) (kp : Nat → Bool) : ∀ (l : Mem S) (i : Nat), (convM m kp i l).length = l.length
  | [], _ => rfl
  | o :: r, i => by simp [convM, convM_len m kp r (i + 1)]
theorem convT_get (m : Mem S) (kp sl : Nat → Bool) : ∀ (l : List (V S)) (i j : Nat), (convT m kp sl i l)[j]? = (l[j]?).map fun v => bif sl (i + j) then convL m kp v else .undef
  | [], i, j => by simp [convT]
  | o :: r, i, 0 => by simp [convT]
  | o :: r, i, j + 1 => by simp only [convT, List.getElem?_cons_succ]; rw [convT_get m kp sl r (i + 1) j]; congr 2; funext v; rw [show i + 1 + j = i + (j + 1) by omega]
theorem convT_len (m : Mem S) (kp sl : Nat → Bool) : ∀ (l : List (V S)) (i : Nat), (convT m kp sl i l).length = l.length
  | [], _ => rfl
  | o :: r, i => by simp [convT, convT_len m kp sl r (i + 1)]
section
variable {C : Ctx S} {K : Gh} {w : World} {B : Nat} {m : Mem S} {kp : Nat → Bool}
def boxAt (m : Mem S) (i : Nat) : Bool := match m[i]? with
  | some (.box _ _) => true
  | _ => false
def mapObj (m : Mem S) (i : Nat) : Bool := match m[i]? with
  | some (.map _ _ _) => true
  | some (.oth _) => true
  | _ => false
def Gh.turn (K : Gh) (m : Mem S) (objs : Nat) (kp : Nat → Bool) : Gh :=
  { n := min objs m.length, ι := K.ι, hv := fun i => bif kp i then K.hv i else .slice none 0 0, gen := fun _ => 0, esz := fun i => bif mapObj m i then 1 else K.esz i, live := fun i => bif kp i || boxAt m i then K.live i else false, σ := K.σ, σ0 := K.σ0 }
theorem conv0_rep (h : RelM C K w B m) {objs : Nat} (hk : ∀ i, kp i = true → i < objs) {v : Value} {x : V S} (hv : RepV C.E K w v x) : RepV C.E (K.turn m objs kp) w v (conv0 m kp x) := by
  cases hv with
  | own id g v hn hg hp hh =>
    simp only [conv0]
    cases hkp : kp id with
    | false => exact .undef _
    | true =>
      simp only [cond_true]
      split
      · rename_i e t l g' fz hm
        cases hb : Nat.beq g g' with
        | false => exact .undef _
        | true =>
          have := Nat.eq_of_beq_eq_true hb
          subst this
          obtain ⟨h1, _, _⟩ := h.ob id _ hm
          refine .own id 0 v ?_ (Nat.zero_le _) hp fun _ => ?_
          · simp only [Gh.turn]; exact Nat.lt_min.2 ⟨hk id hkp, (List.getElem?_eq_some_iff.1 hm).1⟩
          · simp only [Gh.turn, hkp, cond_true]; exact hh h1
      · exact .undef _
  | ptr id off v hn hp hh =>
    simp only [conv0]
    cases hkp : kp id with
    | false => exact .undef _
    | true =>
      simp only [cond_true]
      split
      · rename_i cs fz hm
        obtain ⟨h1, _⟩ := h.ob id _ hm
        exact .ptr id off v (by simp only [Gh.turn]; exact Nat.lt_min.2 ⟨hk id hkp, (List.getElem?_eq_some_iff.1 hm).1⟩) hp fun _ => hh h1
      · exact .undef _
  | cell h => exact .cell h
  | full h => exact .full h
  | nilS a => exact .nilS a
  | agg => exact .undef _
  | eptr => exact .undef _
  | ro => exact .undef _
  | clo => exact .undef _
  | tup => exact .undef _
  | cmap => exact .undef _
  | ifc => exact .undef _
  | mapr id v hn hp hh =>
    simp only [conv0]
    cases hkp : kp id with
    | false => exact .undef _
    | true =>
      simp only [cond_true]
      split
      · rename_i kt vt l hm
        obtain ⟨h1, _⟩ := h.ob id _ hm
        exact .mapr id v (by simp only [Gh.turn]; exact Nat.lt_min.2 ⟨hk id hkp, (List.getElem?_eq_some_iff.1 hm).1⟩) hp fun _ => hh h1
      · exact .undef _
  | undef => exact .undef _
  | known => exact .undef _
  | yld id v hn hp hh =>
    simp only [conv0]
    cases hkp : kp id with
    | false => exact .undef _
    | true =>
      simp only [cond_true]
      split
      · rename_i ob hm
        obtain ⟨h1, _⟩ := h.ob id _ hm
        exact .yld id v (by simp only [Gh.turn]; exact Nat.lt_min.2 ⟨hk id hkp, (List.getElem?_eq_some_iff.1 hm).1⟩) hp fun _ => hh h1
      · exact .undef _
theorem convL_rep (h : RelM C K w B m) {objs : Nat} (hk : ∀ i, kp i = true → i < objs) {v : Value} {x : V S} (hv : RepV C.E K w v x) : RepV C.E (K.turn m objs kp) w v (convL m kp x) := by
  have many : ∀ (cs : Array Value) (vs : List (V S)), (∀ (j : Nat) (c : Value) (y : V S), cs[j]? = some c → vs[j]? = some y → RepV C.E K w c y) →
      ∀ (j : Nat) (c : Value) (y : V S), cs[j]? = some c → (vs.map (conv0 m kp))[j]? = some y → RepV C.E (K.turn m objs kp) w c y := by
    intro cs vs hj j c y p q
    rw [List.getElem?_map] at q
    cases hy : vs[j]? with
    | none => rw [hy] at q; cases q
    | some z =>
      rw [hy] at q
      simp only [Option.map_some, Option.some.injEq] at q
      subst q
      exact conv0_rep h hk (hj j c z p hy)
  cases hv with
  | agg cs vs hs hj => exact .agg cs _ (by simpa using hs) (many cs vs hj)
  | clo f a b a' b' h1 h2 hf hc => exact .clo f a b _ _ (by simpa using h1) (by simpa using h2) (many a a' hf) (many b b' hc)
  | own id g v hn hg hp hh => exact conv0_rep h hk (.own id g v hn hg hp hh)
  | ptr id off v hn hp hh => exact conv0_rep h hk (.ptr id off v hn hp hh)
  | cell h => exact .cell h
  | full h => exact .full h
  | nilS a => exact .nilS a
  | eptr => exact .undef _
  | ro => exact .undef _
  | tup => exact .undef _
  | cmap => exact .undef _
  | ifc => exact .undef _
  | mapr id v hn hp hh => exact conv0_rep h hk (.mapr id v hn hp hh)
  | undef => exact .undef _
  | known => exact .undef _
  | yld id v hn hp hh => exact conv0_rep h hk (.yld id v hn hp hh)
theorem turn_rel (h : RelM C K w B m) {objs : Nat} (hk : ∀ i, kp i = true → i < objs) : RelM C (K.turn m objs kp) w B (convM m kp 0 (m.take objs)) := by
  have hlive : ∀ i, (K.turn m objs kp).live i = true → K.live i = true := by
    intro i hi
    simp only [Gh.turn] at hi
    cases hb : (kp i || boxAt m i) with
    | true => rw [hb] at hi; exact hi
    | false => rw [hb] at hi; cases hi
  refine ⟨?_, fun i o hi => ?_, fun i j hi hj li lj e => ?_, h.new, h.glob, h.base, h.old⟩
  · rw [convM_len, List.length_take]; rfl
  · rw [convM_get, Nat.zero_add] at hi
    cases ho : (m.take objs)[i]? with
    | none => rw [ho] at hi; cases hi
    | some o0 =>
      rw [ho] at hi
      simp only [Option.map_some, Option.some.injEq] at hi
      subst hi
      have hm : m[i]? = some o0 := by
        rw [List.getElem?_take] at ho
        split at ho
        · exact ho
        · cases ho
      have hob := h.ob i o0 hm
      cases o0 with
      | box cs fz =>
        obtain ⟨h0, hl, c, e, h1, h2, h3, h4, h5⟩ := hob
        have hbox : boxAt m i = true := by simp [boxAt, hm]
        refine ⟨rfl, by simp only [Gh.turn, hbox, Bool.or_true, cond_true]; exact hl, c, e, h1, ?_, fun j v x p q => ?_, h4, h5⟩
        · cases kp i <;> simpa using h2
        · cases hkp : kp i with
          | false =>
            rw [hkp] at q
            simp only [cond_false, List.getElem?_map] at q
            cases hcs : cs[j]? with
            | none => rw [hcs] at q; cases q
            | some z => rw [hcs] at q; simp only [Option.map_some, Option.some.injEq] at q; subst q; exact .undef _
          | true =>
            rw [hkp] at q
            simp only [cond_true, List.getElem?_map] at q
            cases hcs : cs[j]? with
            | none => rw [hcs] at q; cases q
            | some z => rw [hcs] at q; simp only [Option.map_some, Option.some.injEq] at q; subst q; exact convL_rep h hk (h3 j v z p hcs)
      | arr e t l g fz =>
        obtain ⟨h0, h1, h2⟩ := hob
        simp only [convOb]
        cases hkp : kp i with
        | true =>
          have hmap : mapObj m i = false := by simp [mapObj, hm]
          refine ⟨rfl, by simp only [Gh.turn, hmap, cond_false]; exact h1, ?_⟩
          simp only [Gh.turn, hkp, Bool.true_or, cond_true]
          exact h2
        | false =>
          have hbox : boxAt m i = false := by simp [boxAt, hm]
          have hmap : mapObj m i = false := by simp [mapObj, hm]
          refine ⟨rfl, by simp only [Gh.turn, hmap, cond_false]; exact h1, .inl ⟨by simp only [Gh.turn, hkp, hbox, Bool.or_false, cond_false], rfl, none, by simp only [Gh.turn, hkp, cond_false]⟩⟩
      | map kt vt l =>
        obtain ⟨h0, hl, es, clk, h1, h2, h3, h4⟩ := hob
        simp only [convOb]
        cases hkp : kp i with
        | true => exact ⟨rfl, by simp only [Gh.turn, hkp, Bool.true_or, cond_true]; exact hl, es, clk, h1, h2, h3, h4⟩
        | false =>
          have hbox : boxAt m i = false := by simp [boxAt, hm]
          have hmap : mapObj m i = true := by simp [mapObj, hm]
          exact ⟨rfl, by simp only [Gh.turn, hmap, cond_true]; rfl, .inl ⟨by simp only [Gh.turn, hkp, hbox, Bool.or_false, cond_false], rfl, none, by simp only [Gh.turn, hkp, cond_false]⟩⟩
      | oth ob =>
        obtain ⟨h0, hl, h1, h2, h3, h4⟩ := hob
        simp only [convOb]
        cases hkp : kp i with
        | true => exact ⟨rfl, by simp only [Gh.turn, hkp, Bool.true_or, cond_true]; exact hl, h1, h2, h3, h4⟩
        | false =>
          have hbox : boxAt m i = false := by simp [boxAt, hm]
          have hmap : mapObj m i = true := by simp [mapObj, hm]
          exact ⟨rfl, by simp only [Gh.turn, hmap, cond_true]; rfl, .inl ⟨by simp only [Gh.turn, hkp, hbox, Bool.or_false, cond_false], rfl, none, by simp only [Gh.turn, hkp, cond_false]⟩⟩
  · have hn : (K.turn m objs kp).n ≤ K.n := by simp only [Gh.turn, h.n]; exact Nat.min_le_right _ _
    exact h.inj i j (Nat.lt_of_lt_of_le hi hn) (Nat.lt_of_lt_of_le hj hn) (hlive i li) (hlive j lj) e
end
def frzB : Mem S → List Nat → Mem S
  | m, [] => m
  | m, id :: r => frzB (match m[id]? with | some (.box cs _) => m.set id (.box cs true) | _ => m) r
section
variable {C : Ctx S} {K : Gh} {w : World} {B : Nat} {m : Mem S}
theorem frzB1 (h : RelM C K w B m) {id : Nat} {cs : List (V S)} {fz : Bool} (hm : m[id]? = some (.box cs fz)) : ∃ K', Ext K w K' w ∧ Same K K' ∧ RelM C K' w B (m.set id (.box cs true)) := by
  have hlt : id < m.length := (List.getElem?_eq_some_iff.1 hm).1
  have hin : id < K.n := h.n ▸ hlt
  obtain ⟨hg, hlive, c, te, p1, p2, p3, p4, p5⟩ := h.ob id _ hm
  let K' : Gh := { K with σ := fun b => if b = K.ι id then max (K.σ b) c.size else K.σ b }
  have hx' : Ext K w K' w := ⟨Nat.le_refl _, fun i _ => ⟨Nat.le_refl _, fun _ => ⟨rfl, rfl, rfl⟩⟩, fun b => by simp only [K']; split <;> omega, fun _ _ _ => rfl, fun _ _ _ q => keeps.of q, .inr rfl⟩
  refine ⟨K', hx', ⟨rfl, rfl, rfl, rfl, rfl, rfl, rfl⟩, ?_⟩
  refine h.set hin hx' rfl (fun j _ _ => ⟨rfl, rfl, rfl, rfl, rfl⟩) (fun b => ?_) (fun k _ _ => rfl) (Nat.le_refl _) (fun _ => .inl ⟨hlive, rfl⟩) (fun b hb => ?_) ?_
  · by_cases q : b = K.ι id
    · cases fz with
      | false => exact .inr ⟨hlive, q, by rw [q]; exact (p4 rfl).2⟩
      | true => left; have := p5 rfl; simp only [K', q, if_true]; omega
    · left; simp only [K', q, if_false]
  · have : b ≠ K.ι id := by have := h.blk hin hlive; omega
    simp only [K', this, if_false]; exact h.new b hb
  · exact ⟨hg, hlive, c, te, p1, p2, fun j v x q1 q2 => (p3 j v x q1 q2).mono hx', fun q => (by cases q), fun _ => by simp only [K', if_true]; exact Nat.le_max_right _ _⟩
theorem frzB_ok : ∀ (ids : List Nat) {K : Gh} {m : Mem S}, RelM C K w B m → ∃ K', Ext K w K' w ∧ Same K K' ∧ RelM C K' w B (frzB m ids) ∧ ∀ id cs fz, m[id]? = some (.box cs fz) → ∃ fz', (frzB m ids)[id]? = some (.box cs fz') ∧ (fz = true → fz' = true) ∧ (id ∈ ids → fz' = true)
  | [], K, m, h => ⟨K, .refl K w, ⟨rfl, rfl, rfl, rfl, rfl, rfl, rfl⟩, h, fun id cs fz hm => ⟨fz, hm, fun e => e, fun hid => by cases hid⟩⟩
  | i :: r, K, m, h => by
    have step : ∃ K1, Ext K w K1 w ∧ Same K K1 ∧ RelM C K1 w B (match m[i]? with | some (.box cs _) => m.set i (.box cs true) | _ => m) ∧
        ∀ id cs fz, m[id]? = some (.box cs fz) → ∃ fz', (match m[i]? with | some (.box cs _) => m.set i (.box cs true) | _ => m)[id]? = some (.box cs fz') ∧ (fz = true → fz' = true) ∧ (id = i → fz' = true) := by
      split
      · rename_i cs0 fz0 hm0
        obtain ⟨K1, x1, s1, r1⟩ := frzB1 h hm0
        refine ⟨K1, x1, s1, r1, fun id cs fz hm => ?_⟩
        have hlt : i < m.length := (List.getElem?_eq_some_iff.1 hm0).1
        by_cases e : id = i
        · subst e
          rw [hm] at hm0
          cases hm0
          exact ⟨true, by rw [List.getElem?_set_self hlt], fun _ => rfl, fun _ => rfl⟩
        · exact ⟨fz, by rw [List.getElem?_set_ne (fun q => e q.symm)]; exact hm, fun q => q, fun q => absurd q e⟩
      · rename_i hne
        refine ⟨K, .refl K w, ⟨rfl, rfl, rfl, rfl, rfl, rfl, rfl⟩, h, fun id cs fz hm => ⟨fz, hm, fun q => q, fun q => ?_⟩⟩
        subst q
        exact absurd hm (hne cs fz)
    obtain ⟨K1, x1, s1, r1, f1⟩ := step
    obtain ⟨K2, x2, s2, r2, f2⟩ := frzB_ok r r1
    refine ⟨K2, x1.trans x2, s1.trans s2, r2, fun id cs fz hm => ?_⟩
    obtain ⟨fz1, h1, h2, h3⟩ := f1 id cs fz hm
    obtain ⟨fz2, g1, g2, g3⟩ := f2 id cs fz1 h1
    refine ⟨fz2, g1, fun q => g2 (h2 q), fun hid => ?_⟩
    rcases List.mem_cons.1 hid with q | q
    · exact g2 (h3 q)
    · exact g3 q
end
/-- The steps of a turn. -/
inductive Hs where
  | canon (objs : Nat) (keep slots : List Nat)
  | plain (j : Nat) (t : Ty)
  | plainB (id off : Nat) (t : Ty)
  | mark (id : Nat)
  | frz (id : Nat)
  | promo (j : Nat) (e : TypeId) (T : Ty)
  | promoB (id off : Nat) (e : TypeId) (T : Ty)
def keepF (objs : Nat) (keep : List Nat) (i : Nat) : Bool := bif Nat.blt i objs then inL keep i else false
def hs1 (C : Ctx S) : Hs → St S → Option (St S)
  | .canon objs keep slots, s => some { tmps := convT s.mem (keepF objs keep) (inL slots) 0 s.tmps, mem := convM s.mem (keepF objs keep) 0 (s.mem.take objs) }
  | .plain j t, s => match s.tmps[j]? with
    | some v => (dec C.E (mark s.mem v.owns) t v).map fun x => { tmps := s.tmps.set j (encV C.E t x), mem := mark s.mem v.owns }
    | none => none
  | .plainB id off t, s => match s.mem[id]? with
    | some (.box cs fz) => match (bif isStT t then some (V.agg ((cs.drop off).take (tsize C.E t))) else cs[off]?) with
      | some v => bif decide (off + tsize C.E t ≤ cs.length) then (dec C.E (mark s.mem v.owns) t v).map fun x => { s with mem := (mark s.mem v.owns).set id (.box (setCells cs off (encV C.E t x).cells) fz) } else none
      | none => none
    | _ => none
  | .mark id, s => some { s with mem := mark s.mem [id] }
  | .frz id, s => some { s with mem := frzB s.mem [id] }
  | .promo j e T, s => match s.tmps[j]? with
    | some .nilS => some { tmps := s.tmps.set j (.own s.mem.length 0), mem := s.mem ++ [.arr e T [] 0 false] }
    | some (.own _ _) => some s
    | _ => none
  | .promoB id off e T, s => match s.mem[id]? with
    | some (.box cs fz) => match cs[off]? with
      | some .nilS => some { s with mem := s.mem.set id (.box (cs.set off (.own s.mem.length 0)) fz) ++ [.arr e T [] 0 false] }
      | some (.own _ _) => some s
      | _ => none
    | _ => none
def hsL (C : Ctx S) : List Hs → St S → Option (St S)
  | [], s => some s
  | h :: r, s => (hs1 C h s).bind (hsL C r)
/-- A loop's name: how deep it lies, and its first region. -/
def firstR : Code → Option Nat
  | .region id _ _ => some id
  | .seq a b => (firstR a).or (firstR b)
  | .cond _ a b => (firstR a).or (firstR b)
  | .block _ b => firstR b
  | .scope b => firstR b
  | .loop b => firstR b
  | _ => none
def loopKey : List Item → Nat × Nat
  | .inLoop c :: k => (k.length, (firstR c).getD 0)
  | k => (k.length, 0)
def keyL : List ((Nat × Nat) × List Hs) → Nat × Nat → Option (List Hs)
  | [], _ => none
  | p :: r, t => bif Nat.beq t.1 p.1.1 && Nat.beq t.2 p.1.2 then some p.2 else keyL r t
def hdOf (C : Ctx S) (tab : List ((Nat × Nat) × List Hs)) : List Item → St S → Option (St S) := fun todo s => (keyL tab (loopKey todo)).bind fun l => hsL C l s
section
variable {C : Ctx S} {B : Nat}
theorem RelS.setTmp {K : Gh} {w : World} {s : St S} {a : Act} (h : RelS C K w B s a) {j : Nat} {x y : V S} (hj : s.tmps[j]? = some x) (hxy : ∀ v, RepV C.E K w v x → RepV C.E K w v y) : RelS C K w B { s with tmps := s.tmps.set j y } a := by
  refine ⟨by simp [h.size], fun i c v p q => ?_, h.defers, h.mem⟩
  by_cases e : i = j
  · subst e
    have hlt := (List.getElem?_eq_some_iff.1 hj).1
    rw [List.getElem?_set_self hlt] at q
    cases q
    exact hxy c (h.tmps i c x p hj)
  · rw [List.getElem?_set_ne (fun r => e r.symm)] at q
    exact h.tmps i c v p q
theorem RelS.ext {K K' : Gh} {w w' : World} {s : St S} {a : Act} {m' : Mem S} (h : RelS C K w B s a) (hx : Ext K w K' w') (hm : RelM C K' w' B m') : RelS C K' w' B { s with mem := m' } a :=
  ⟨h.size, fun j c v p q => (h.tmps j c v p q).mono hx, h.defers, hm⟩
/-- A box's cell told otherwise. -/
theorem RelM.recell {K : Gh} {w : World} {m : Mem S} (h : RelM C K w B m) {id : Nat} {cs ds : List (V S)} {fz : Bool} (hm : m[id]? = some (.box cs fz)) (hl : ds.length = cs.length)
    (hd : ∀ (c : Array Value), c.size = cs.length → (∀ (j : Nat) (v : Value) (x : V S), c[j]? = some v → cs[j]? = some x → RepV C.E K w v x) → ∀ (j : Nat) (v : Value) (x : V S), c[j]? = some v → ds[j]? = some x → RepV C.E K w v x) :
    RelM C K w B (m.set id (.box ds fz)) := by
  have hlt : id < m.length := (List.getElem?_eq_some_iff.1 hm).1
  have hin : id < K.n := h.n ▸ hlt
  refine h.set hin (.refl K w) rfl (fun j _ _ => ⟨rfl, rfl, rfl, rfl, rfl⟩) (fun _ => .inl rfl) (fun k _ _ => rfl) (Nat.le_refl _) (fun q => .inl ⟨q, rfl⟩) h.new ?_
  obtain ⟨h0, hlv, c, e, h1, h2, h3, h4, h5⟩ := h.ob id _ hm
  exact ⟨h0, hlv, c, e, h1, h2.trans hl.symm, hd c h2 h3, h4, h5⟩
theorem keepF_lt {objs : Nat} {keep : List Nat} {i : Nat} (h : keepF objs keep i = true) : i < objs := by
  unfold keepF at h
  cases hb : Nat.blt i objs with
  | true => simpa [Nat.blt_eq] using hb
  | false => rw [hb] at h; cases h
theorem oneCells {u : Value} (h : u.oneCell' = true) : u.cells = #[u] := by
  cases u <;> first | rfl | (simp [Value.oneCell'] at h)
theorem mark1_box {m : Mem S} {i id : Nat} {cs : List (V S)} {fz : Bool} (h : m[id]? = some (.box cs fz)) : (mark1 m i)[id]? = some (.box cs fz) := by
  unfold mark1
  split
  · rename_i hm
    by_cases e : i = id
    · subst e; rw [hm] at h; cases h
    · rw [List.getElem?_set_ne e]; exact h
  · exact h
theorem mark_box {id : Nat} {cs : List (V S)} {fz : Bool} : ∀ {ids : List Nat} {m : Mem S}, m[id]? = some (.box cs fz) → (mark m ids)[id]? = some (.box cs fz)
  | [], _, h => h
  | _ :: ids, _, h => by
    unfold mark
    exact mark_box (ids := ids) (mark1_box h)
theorem hs1_ok (hE : EnvOK C.E) {K0 : Gh} {w0 : World} (h0 : K0.n = 0) (h : Hs) {s s' : St S} {a : Act} {w : World} (hA : At C B K0 w0 s a w) (hs : hs1 C h s = some s') : At C B K0 w0 s' a w := by
  obtain ⟨K, x1, x2, x3⟩ := hA
  cases h with
  | canon objs keep slots =>
    simp only [hs1, Option.some.injEq] at hs
    subst hs
    have hk : ∀ i, keepF objs keep i = true → i < objs := fun i => keepF_lt
    refine ⟨K.turn s.mem objs (keepF objs keep), ⟨by rw [h0]; exact Nat.zero_le _, fun i hi => by omega, x1.σ, x1.cell, x1.map, x1.σ0⟩, x2, ?_, fun j c v p q => ?_, x3.defers, turn_rel x3.mem hk⟩
    · rw [convT_len]; exact x3.size
    · rw [convT_get, Nat.zero_add] at q
      cases hv : s.tmps[j]? with
      | none => rw [hv] at q; cases q
      | some z =>
        rw [hv] at q
        simp only [Option.map_some, Option.some.injEq] at q
        subst q
        cases inL slots j with
        | true => exact convL_rep x3.mem hk (x3.tmps j c z p hv)
        | false => exact .undef _
  | plain j t =>
    simp only [hs1] at hs
    split at hs
    · rename_i v hv
      simp only [Option.map_eq_some_iff] at hs
      obtain ⟨x, hx, rfl⟩ := hs
      obtain ⟨K', y1, _, y2, y3⟩ := freeze x3.mem v.owns
      exact ⟨K', x1.trans y1, x2, (x3.ext y1 y2).setTmp hv fun u hu => dec_rep hE y2 hu hx y3⟩
    · cases hs
  | mark id =>
    simp only [hs1, Option.some.injEq] at hs
    subst hs
    obtain ⟨K', y1, _, y2, _⟩ := freeze x3.mem [id]
    exact ⟨K', x1.trans y1, x2, x3.ext y1 y2⟩
  | frz id =>
    simp only [hs1, Option.some.injEq] at hs
    subst hs
    obtain ⟨K', y1, _, y2, _⟩ := frzB_ok [id] x3.mem
    exact ⟨K', x1.trans y1, x2, x3.ext y1 y2⟩
  | promo j e T =>
    simp only [hs1] at hs
    split at hs
    · rename_i hv
      simp only [Option.some.injEq] at hs
      subst hs
      have hlt := (List.getElem?_eq_some_iff.1 hv).1
      have hla : j < a.tmps.size := by rw [x3.size]; exact hlt
      have hrep := x3.tmps j a.tmps[j] .nilS (by simp [hla]) hv
      generalize hu : a.tmps[j] = u at hrep
      cases hrep with
      | nilS ad =>
        obtain ⟨K', y1, y2, y3⟩ := newNil x3.mem e T ad
        refine ⟨K', x1.trans y1, x2, ⟨by simp [x3.size], fun i c v p q => ?_, x3.defers, y2⟩⟩
        simp only at p q
        by_cases ei : i = j
        · subst ei
          rw [List.getElem?_set_self hlt] at q
          cases q
          rw [Array.getElem?_eq_getElem hla, hu, Option.some.injEq] at p
          subst p
          exact y3
        · rw [List.getElem?_set_ne (fun r => ei r.symm)] at q
          exact (x3.tmps i c v p q).mono y1
    · simp only [Option.some.injEq] at hs
      subst hs
      exact ⟨K, x1, x2, x3⟩
    · cases hs
  | plainB id off t =>
    simp only [hs1] at hs
    split at hs
    · rename_i cs fz hm
      split at hs
      · rename_i v hv
        cases ho : decide (off + tsize C.E t ≤ cs.length) with
        | false => rw [ho] at hs; cases hs
        | true =>
          rw [ho] at hs
          simp only [cond_true, Option.map_eq_some_iff] at hs
          obtain ⟨x, hx, rfl⟩ := hs
          have hle : off + tsize C.E t ≤ cs.length := by simpa using ho
          obtain ⟨K', y1, _, y2, y3⟩ := freeze x3.mem v.owns
          replace hm := mark_box (ids := v.owns) hm
          replace x1 := x1.trans y1
          replace x3 := x3.ext y1 y2
          have hcl : (encV C.E t x).cells.length = tsize C.E t := by
            rw [encV_cells, elemCells_eq, List.length_map, cellsOf_len hE]
          refine ⟨K', x1, x2, x3.ext (.refl K' w) (x3.mem.recell hm (setCells_len _ _ _) fun c hc hcr j u y p q => ?_)⟩
          rw [setCells_get cs _ off (by rw [hcl]; exact hle), hcl] at q
          split at q
          · rename_i hr
            -- of what is told anew
            have hone : ∀ (V0 : Value), RepV C.E K' w V0 v → V0.cells[j - off]? = some u → v.defd = true → RepV C.E K' w u y := by
              intro V0 hV0 hV1 hdf
              have hd := dec_rep hE x3.mem hV0 hx y3
              have hdd : (encV C.E t x).defd = true := by cases t <;> rfl
              exact (hd.cells hdd).2 _ u y hV1 q
            cases hst : isStT t with
            | true =>
              rw [hst] at hv
              simp only [cond_true, Option.some.injEq] at hv
              subst hv
              refine hone (.agg (c.extract off (off + tsize C.E t))) (.agg _ _ ?_ fun i z y' p' q' => ?_) ?_ rfl
              · simp; omega
              · rw [List.getElem?_take] at q'
                split at q'
                · rename_i hi
                  rw [List.getElem?_drop] at q'
                  have : c[off + i]? = some z := by
                    rw [Array.getElem?_extract] at p'
                    split at p'
                    · exact p'
                    · cases p'
                  exact hcr (off + i) z y' this q'
                · cases q'
              · simp only [Value.cells]
                rw [Array.getElem?_extract, if_pos (by omega)]
                rw [show off + (j - off) = j by omega]; exact p
            | false =>
              rw [hst] at hv
              simp only [cond_false] at hv
              have h1 : tsize C.E t = 1 := by cases t <;> first | rfl | exact absurd hst (by simp [isStT])
              have hj : j = off := by omega
              subst hj
              have hrv := hcr j u v p hv
              have hv1 : v.one = true := by
                have : ∀ t : Ty, (∃ y, decLeaf (mark s.mem v.owns) t v = some y) → v.one = true := by
                  rintro t ⟨y, hy⟩
                  cases v <;> first | rfl | (simp [decLeaf] at hy)
                refine this t ?_
                cases t <;> first | exact ⟨_, hx⟩ | exact absurd hst (by simp [isStT])
              refine hone u hrv ?_ (by cases v <;> first | rfl | (cases hv1))
              rw [oneCells (hrv.oneCell hv1)]; simp
          · exact hcr j u y p q
      · cases hs
    · cases hs
  | promoB id off e T =>
    simp only [hs1] at hs
    split at hs
    · rename_i cs fz hm
      split at hs
      · rename_i hv
        simp only [Option.some.injEq] at hs
        subst hs
        obtain ⟨g0, hlv, c, ce, h1, h2, h3, h4, h5⟩ := x3.mem.ob id _ hm
        have hlt := (List.getElem?_eq_some_iff.1 hv).1
        have hla : off < c.size := by omega
        have hrep := h3 off c[off] .nilS (by simp [hla]) hv
        generalize hu : c[off] = u at hrep
        cases hrep with
        | nilS ad =>
          obtain ⟨K', y1, y2, y3⟩ := newNil x3.mem e T ad
          have hidlt : id < s.mem.length := (List.getElem?_eq_some_iff.1 hm).1
          have hm' : (s.mem ++ [Ob.arr e T [] 0 false])[id]? = some (.box cs fz) := by rw [List.getElem?_append_left hidlt]; exact hm
          obtain ⟨k0, klv, c', ce', k1, k2, k3, k4, k5⟩ := y2.ob id _ hm'
          have hset : s.mem.set id (.box (cs.set off (.own s.mem.length 0)) fz) ++ [Ob.arr e T [] 0 false] = (s.mem ++ [Ob.arr e T [] 0 false]).set id (.box (cs.set off (.own s.mem.length 0)) fz) := by
            rw [List.set_append_left _ _ hidlt]
          rw [hset]
          have hin : id < K'.n := by rw [y2.n]; simp; omega
          have hin0 : id < K.n := by rw [x3.mem.n]; exact hidlt
          have hι : K'.ι id = K.ι id := by
            obtain ⟨q1, q2⟩ := y1.id id hin0
            exact (q2 (by rw [k0, g0])).1
          have hcc : c' = c := by
            rw [hι, h1] at k1
            cases k1; rfl
          subst hcc
          refine ⟨K', x1.trans y1, x2, x3.ext y1 (y2.set hin (.refl K' w) rfl (fun j _ _ => ⟨rfl, rfl, rfl, rfl, rfl⟩) (fun _ => .inl rfl) (fun k _ _ => rfl) (Nat.le_refl _) (fun q => .inl ⟨q, rfl⟩) y2.new ?_)⟩
          refine ⟨k0, klv, c', ce', k1, by simpa using k2, fun j v x p q => ?_, k4, k5⟩
          by_cases ej : j = off
          · subst ej
            rw [List.getElem?_set_self hlt] at q
            cases q
            rw [Array.getElem?_eq_getElem hla, hu, Option.some.injEq] at p
            subst p
            exact y3
          · rw [List.getElem?_set_ne (fun r => ej r.symm)] at q
            exact k3 j v x p q
      · simp only [Option.some.injEq] at hs
        subst hs
        exact ⟨K, x1, x2, x3⟩
      · cases hs
    · cases hs
theorem hsL_ok (hE : EnvOK C.E) {K0 : Gh} {w0 : World} (h0 : K0.n = 0) {a : Act} {w : World} : ∀ (l : List Hs) (s s' : St S), At C B K0 w0 s a w → hsL C l s = some s' → At C B K0 w0 s' a w
  | [], s, s', hA, hs => by cases hs; exact hA
  | h :: r, s, s', hA, hs => by
    obtain ⟨s1, h1, hs⟩ := bsome hs
    exact hsL_ok hE h0 r s1 s' (hs1_ok hE h0 h hA h1) hs
theorem hdOf_ok (hE : EnvOK C.E) (tab : List ((Nat × Nat) × List Hs)) : HdOK C (hdOf C tab) := by
  intro B K0 w0 todo s s' a w h0 hA hs
  unfold hdOf at hs
  obtain ⟨l, _, hs⟩ := bsome hs
  exact hsL_ok hE h0 l s s' hA hs
end
end Go.Lv
namespace Go.Lv
set_option linter.all false
open Go Go.RowKit
variable {S : Nat → Type}
/-- The loops of a body, each with what comes behind it. -/
def loopsOf : Code → List Item → List (List Item)
  | .seq a b, k => loopsOf a (.code b :: k) ++ loopsOf b k
  | .cond _ x y, k => loopsOf x k ++ loopsOf y k
  | .block id b, k => loopsOf b (.inBlock id :: k)
  | .scope b, k => loopsOf b (.inScope b :: k)
  | .loop b, k => (.inLoop b :: k) :: loopsOf b (.inLoop b :: k)
  | _, _ => []
section
variable (C : Ctx S) (cl : Cl S) {R : Type}
def todoOf (f : FuncId) (i : Nat) : List Item := match body? C f with
  | some (_, b) => (loopsOf b []).getD i []
  | none => []
def finW (f : FuncId) (ts : List Ty) (de : List (Cell S) → Option R) : St S → D R := match body? C f with
  | some (fn, _) => finR C fn ts de
  | none => fun _ => .fail
def roundT (hd : List Item → St S → Option (St S)) (fin : St S → D R) (L : Lp S R) (s : St S) : List Item → D R
  | .inLoop c :: k => ex C cl (canonL hd L) fin fuel (.code c :: .inLoop c :: k) s
  | _ => .fail
def roundW (hd : List Item → St S → Option (St S)) (f : FuncId) (i : Nat) (ts : List Ty) (de : List (Cell S) → Option R) (L : Lp S R) (s : St S) : D R :=
  roundT C cl hd (finW C f ts de) L s (todoOf C f i)
theorem Lfix_round (hd : List Item → St S → Option (St S)) (f : FuncId) (i : Nat) (ts : List Ty) (de : List (Cell S) → Option R) (n : Nat) (s : St S) :
    Lfix C cl hd (finW C f ts de) (n + 1) (todoOf C f i) s = roundW C cl hd f i ts de (Lfix C cl hd (finW C f ts de) n) s := by
  unfold roundW
  generalize todoOf C f i = t
  cases t with
  | nil => rfl
  | cons x k => cases x <;> rfl
theorem runF_eq (hd : List Item → St S → Option (St S)) (f : FuncId) (ts : List Ty) (de : List (Cell S) → Option R) (n : Nat) (args : List (V S)) :
    runF C cl hd f ts de n args = runW C cl (fun _ => canonL hd (Lfix C cl hd (finW C f ts de) n)) f ts de args := by
  unfold runF runW finW
  cases body? C f with
  | none => rfl
  | some p => rfl
def AllOK : List (Nat × Spec S) → Prop
  | [] => True
  | p :: r => SpecOK C p.1 p.2 ∧ AllOK r
end
theorem AllOK.mem {C : Ctx S} : ∀ {l : List (Nat × Spec S)}, AllOK C l → ∀ p, p ∈ l → SpecOK C p.1 p.2
  | [], _, p, h => by cases h
  | q :: r, h, p, hp => by
    rcases List.mem_cons.1 hp with rfl | hp
    · exact h.1
    · exact AllOK.mem h.2 p hp
theorem specs_ok {C : Ctx S} {l : List (Nat × Spec S)} (hl : C.spec = spL l) (h : AllOK C l) : ∀ f sp, C.spec f = some sp → SpecOK C f sp := by
  intro f sp hf
  rw [hl] at hf
  exact h.mem _ (spL_mem hf)
theorem inl_ok {C : Ctx S} {l : List Nat} (hl : C.inl = inL l) (h : l.all (fnOk C) = true) : ∀ f, C.inl f = true → fnOk C f = true := by
  intro f hf
  rw [hl] at hf
  exact (List.all_eq_true.1 h) f (inL_mem hf)
/-- How many rounds a loop is let. -/
def big : Nat := 4611686018427387904
def bit_and (k : IntKind) (a b : Int) : Int := k.wrap ((BitVec.ofInt k.bits a &&& BitVec.ofInt k.bits b).toNat : Nat)
def bit_or (k : IntKind) (a b : Int) : Int := k.wrap ((BitVec.ofInt k.bits a ||| BitVec.ofInt k.bits b).toNat : Nat)
end Go.Lv
namespace Go.Lv
set_option linter.all false
open Go Go.RowKit
variable {S : Nat → Type}
/-! Runs whose states are told afresh at each step: the same runs; the kernel takes them faster. -/
section
variable {β : Type 1}
def fcN (n : Nat) (k : Nat → β) : β := match n with
  | 0 => k 0
  | m + 1 => k (m + 1)
theorem fcN_eq (n : Nat) (k : Nat → β) : fcN n k = k n := by cases n <;> rfl
def fcC (v : V S) (k : V S → β) : β := match v with
  | .cell t x => k (.cell t x)
  | .full t l => k (.full t l)
  | .nilS => k .nilS
  | .agg cs => k (.agg cs)
  | .ptr id off => fcN id fun id => fcN off fun off => k (.ptr id off)
  | .own id g => fcN id fun id => fcN g fun g => k (.own id g)
  | .eptr id g i off => fcN id fun id => fcN g fun g => fcN off fun off => k (.eptr id g i off)
  | .ro cs => k (.ro cs)
  | .clo f a b => k (.clo f a b)
  | .tup vs => k (.tup vs)
  | .cmap es => k (.cmap es)
  | .mapr id => fcN id fun id => k (.mapr id)
  | .ifc t => k (.ifc t)
  | .undef => k .undef
  | .known j x => k (.known j x)
  | .yld id => fcN id fun id => k (.yld id)
theorem fcC_eq (v : V S) (k : V S → β) : fcC v k = k v := by cases v <;> simp [fcC, fcN_eq]
def fcL : List (V S) → (List (V S) → β) → β
  | [], k => k []
  | v :: r, k => fcC v fun v => fcL r fun r => k (v :: r)
theorem fcL_eq : ∀ (l : List (V S)) (k : List (V S) → β), fcL l k = k l
  | [], k => rfl
  | v :: r, k => by simp only [fcL, fcC_eq, fcL_eq r]
def fcV (v : V S) (k : V S → β) : β := match v with
  | .agg cs => fcL cs fun cs => k (.agg cs)
  | .ro cs => fcL cs fun cs => k (.ro cs)
  | .clo f a b => fcL a fun a => fcL b fun b => k (.clo f a b)
  | .tup vs => fcL vs fun vs => k (.tup vs)
  | .known j x => fcC x fun x => k (.known j x)
  | v => fcC v k
theorem fcV_eq (v : V S) (k : V S → β) : fcV v k = k v := by cases v <;> simp [fcV, fcC_eq, fcL_eq]
def fcO (o : Ob S) (k : Ob S → β) : β := match o with
  | .box cs fz => fcL cs fun cs => k (.box cs fz)
  | .arr e t l g fz => fcN g fun g => k (.arr e t l g fz)
  | .map a b l => k (.map a b l)
  | .oth o => k (.oth o)
theorem fcO_eq (o : Ob S) (k : Ob S → β) : fcO o k = k o := by cases o <;> simp [fcO, fcN_eq, fcL_eq]
def fcM : Mem S → (Mem S → β) → β
  | [], k => k []
  | o :: r, k => fcO o fun o => fcM r fun r => k (o :: r)
theorem fcM_eq : ∀ (l : Mem S) (k : Mem S → β), fcM l k = k l
  | [], k => rfl
  | v :: r, k => by simp only [fcM, fcO_eq, fcM_eq r]
/-- A list with a place told anew. -/
def fcS : List (V S) → Nat → V S → (List (V S) → β) → β
  | [], _, _, k => k []
  | _ :: r, 0, v, k => k (v :: r)
  | x :: r, n + 1, v, k => fcS r n v fun r => k (x :: r)
theorem fcS_eq : ∀ (l : List (V S)) (n : Nat) (v : V S) (k : List (V S) → β), fcS l n v k = k (l.set n v)
  | [], _, _, k => by simp [fcS]
  | x :: r, 0, v, k => rfl
  | x :: r, n + 1, v, k => by simp only [fcS, fcS_eq r, List.set_cons_succ]
end
/-! Slots in rows of twelve: what is read, or told anew, lies a few steps away. -/
section
variable {α : Type}
def rflat : List (List α) → List α
  | [] => []
  | r :: rs => r ++ rflat rs
def rget : List (List α) → Nat → Nat → Option α
  | [], _, _ => none
  | r :: _, 0, j => r[j]?
  | _ :: rs, q + 1, j => rget rs q j
def rset : List (List α) → Nat → Nat → α → List (List α)
  | [], _, _, _ => []
  | r :: rs, 0, j, v => r.set j v :: rs
  | r :: rs, q + 1, j, v => r :: rset rs q j v
def RWf : List (List α) → Prop
  | [] => True
  | r :: rs => (r.length = 12 ∨ rs = [] ∧ r.length ≤ 12) ∧ RWf rs
theorem rget_eq : ∀ (rs : List (List α)) (d : Nat), RWf rs → rget rs (Nat.div d 12) (Nat.mod d 12) = (rflat rs)[d]?
  | [], d, _ => by simp [rget, rflat]
  | r :: rs, d, h => by
    have h12 : r.length ≤ 12 := by rcases h.1 with h | h <;> omega
    by_cases hd : d < 12
    · have e1 : Nat.div d 12 = 0 := Nat.div_eq_of_lt hd
      have e2 : Nat.mod d 12 = d := Nat.mod_eq_of_lt hd
      rw [e1, e2]
      simp only [rget, rflat]
      rcases h.1 with h | h
      · rw [List.getElem?_append_left (by omega)]
      · rw [h.1]; simp [rflat]
    · have e1 : Nat.div d 12 = Nat.div (d - 12) 12 + 1 := by show d / 12 = (d - 12) / 12 + 1; omega
      have e2 : Nat.mod d 12 = Nat.mod (d - 12) 12 := by show d % 12 = (d - 12) % 12; omega
      rw [e1, e2]
      simp only [rget, rflat]
      rw [rget_eq rs (d - 12) h.2]
      rcases h.1 with h | h
      · rw [List.getElem?_append_right (by omega), h]
      · rw [h.1, List.getElem?_append_right (by omega)]; simp [rflat]
theorem rset_eq : ∀ (rs : List (List α)) (d : Nat) (v : α), RWf rs → rflat (rset rs (Nat.div d 12) (Nat.mod d 12) v) = (rflat rs).set d v
  | [], d, v, _ => by simp [rset, rflat]
  | r :: rs, d, v, h => by
    have h12 : r.length ≤ 12 := by rcases h.1 with h | h <;> omega
    by_cases hd : d < 12
    · have e1 : Nat.div d 12 = 0 := Nat.div_eq_of_lt hd
      have e2 : Nat.mod d 12 = d := Nat.mod_eq_of_lt hd
      rw [e1, e2]
      simp only [rset, rflat]
      rcases h.1 with h | h
      · rw [List.set_append_left _ _ (by omega)]
      · rw [h.1]; simp [rflat]
    · have e1 : Nat.div d 12 = Nat.div (d - 12) 12 + 1 := by show d / 12 = (d - 12) / 12 + 1; omega
      have e2 : Nat.mod d 12 = Nat.mod (d - 12) 12 := by show d % 12 = (d - 12) % 12; omega
      rw [e1, e2]
      simp only [rset, rflat]
      rw [rset_eq rs (d - 12) v h.2]
      rcases h.1 with h | h
      · rw [List.set_append_right _ _ (by omega), h]
      · rw [h.1, List.set_append_right _ _ (by omega)]; simp [rflat]
theorem rset_wf : ∀ (rs : List (List α)) (q j : Nat) (v : α), RWf rs → RWf (rset rs q j v)
  | [], _, _, _, h => h
  | r :: rs, 0, j, v, h => by simpa [rset, RWf] using h
  | r :: rs, q + 1, j, v, h => by
    refine ⟨?_, rset_wf rs q j v h.2⟩
    rcases h.1 with h | h
    · exact .inl h
    · rw [h.1]; exact .inr ⟨rfl, h.2⟩
/-- A list laid in rows. -/
def rchunk : List α → List α → List (List α)
  | [], _ => []
  | _ :: f, l => match l with
    | [] => []
    | x :: r => ((x :: r).take 12) :: rchunk f ((x :: r).drop 12)
theorem chunk_ok : ∀ (f l : List α), l.length ≤ f.length → rflat (rchunk f l) = l ∧ RWf (rchunk f l)
  | [], l, h => by
    have : l = [] := List.length_eq_zero_iff.1 (by simpa using h)
    subst this; exact ⟨rfl, trivial⟩
  | _ :: f, [], _ => ⟨rfl, trivial⟩
  | _ :: f, x :: r, h => by
    have ih := chunk_ok f ((x :: r).drop 12) (by simp at h ⊢; omega)
    simp only [rchunk, rflat]
    refine ⟨by rw [ih.1, List.take_append_drop], ?_, ih.2⟩
    by_cases hl : 12 ≤ (x :: r).length
    · exact .inl (by rw [List.length_take]; omega)
    · refine .inr ⟨?_, by rw [List.length_take]; omega⟩
      rw [List.drop_eq_nil_of_le (by omega)]
      cases f <;> rfl
end
section
variable {β : Type 1} {α : Type}
def fcR : List (List (V S)) → Nat → Nat → V S → (List (List (V S)) → β) → β
  | [], _, _, _, k => k []
  | r :: rs, 0, j, v, k => fcN j fun j => fcS r j v fun r => k (r :: rs)
  | r :: rs, q + 1, j, v, k => fcR rs q j v fun rs => k (r :: rs)
theorem fcR_eq : ∀ (rs : List (List (V S))) (q j : Nat) (v : V S) (k : List (List (V S)) → β), fcR rs q j v k = k (rset rs q j v)
  | [], _, _, _, _ => rfl
  | r :: rs, 0, j, v, k => by simp only [fcR, fcN_eq, fcS_eq, rset]
  | r :: rs, q + 1, j, v, k => by simp only [fcR, fcR_eq rs, rset]
def fcA : Nat → List α → (List α → List α → β) → β
  | 0, l, k => k [] l
  | _ + 1, [], k => k [] []
  | n + 1, x :: l, k => fcA n l fun a b => k (x :: a) b
theorem fcA_eq : ∀ (n : Nat) (l : List α) (k : List α → List α → β), fcA n l k = k (l.take n) (l.drop n)
  | 0, l, k => by simp [fcA]
  | _ + 1, [], k => by simp [fcA]
  | n + 1, x :: l, k => by simp only [fcA, fcA_eq n l, List.take_succ_cons, List.drop_succ_cons]
def fcK : List α → List α → (List (List α) → β) → β
  | [], _, k => k []
  | _ :: f, l, k => match l with
    | [] => k []
    | x :: r => fcA 12 (x :: r) fun a b => fcK f b fun rs => k (a :: rs)
theorem fcK_eq : ∀ (f l : List α) (k : List (List α) → β), fcK f l k = k (rchunk f l)
  | [], _, _ => rfl
  | _ :: f, [], _ => rfl
  | _ :: f, x :: r, k => by simp only [fcK, fcA_eq, fcK_eq f, rchunk]
end
structure Sr (S : Nat → Type) where
  rows : List (List (V S))
  mem : Mem S
def Sr.st (s : Sr S) : St S := { tmps := rflat s.rows, mem := s.mem }
theorem D.bind_assoc {α β γ : Type} (d : D α) (f : α → D β) (g : β → D γ) : (d.bind f).bind g = d.bind fun a => (f a).bind g := by
  induction d with
  | ret a => rfl
  | fail => rfl
  | split b x y hx hy => simp only [D.bind, hx, hy]
  | call o k ih => simp only [D.bind]; congr 1; funext r; exact ih r
section
variable (C : Ctx S)
def Sr.ev (s : Sr S) : Operand → V S
  | .tmp t => ((rget s.rows (Nat.div t 12) (Nat.mod t 12)).getD .undef).bare
  | .const v => ofConst v
  | .global g => match C.G g with
    | some cs => .ro cs
    | none => .undef
  | .func f => .clo f [] []
theorem Sr.ev_eq (s : Sr S) (h : RWf s.rows) : s.ev C = s.st.ev C := by
  funext o
  cases o with
  | tmp t => simp only [Sr.ev, St.ev, Sr.st, rget_eq _ _ h, List.getD_eq_getElem?_getD]
  | _ => rfl
/-- Does it turn the memory? -/
def mutB (o : Oper) : Bool := match o.op with
  | .alloc _ => true
  | .box _ _ => true
  | .store _ _ _ => true
  | .call _ => true
  | .makeSlice _ _ _ => true
  | .buildSlice _ _ _ => true
  | .slice _ _ _ _ _ => true
  | _ => false
variable {R : Type}
def setF (s : Sr S) (d : Nat) (v : V S) (m : Mem S) (k : Sr S → D R) : D R := fcR s.rows (Nat.div d 12) (Nat.mod d 12) v fun rs => k { rows := rs, mem := m }
def putV (s : Sr S) (dst : Option Nat) (v : V S) (m : Mem S) (k : Sr S → D R) : D R := match dst with
  | some d => fcV v fun v => setF s d v m k
  | none => k { rows := s.rows, mem := m }
def putF (mu : Bool) (s : Sr S) (dst : Option Nat) (p : V S × Mem S) (k : Sr S → D R) : D R :=
  match p with
  | (v, m) => match mu with
    | true => fcM m fun m => putV s dst v m k
    | false => putV s dst v m k
theorem setF_eq (s : Sr S) (h : RWf s.rows) (d : Nat) (v : V S) (m : Mem S) {k : Sr S → D R} {k' : St S → D R} (hk : ∀ s, RWf s.rows → k s = k' s.st) : setF s d v m k = k' { tmps := s.st.tmps.set d v, mem := m } := by
  unfold setF
  rw [fcR_eq, hk _ (rset_wf _ _ _ _ h)]
  simp only [Sr.st, rset_eq _ _ _ h]
theorem putF_eq (mu : Bool) (s : Sr S) (h : RWf s.rows) (dst : Option Nat) (p : V S × Mem S) {k : Sr S → D R} {k' : St S → D R} (hk : ∀ s, RWf s.rows → k s = k' s.st) : putF mu s dst p k = k' (s.st.put dst p) := by
  obtain ⟨v, m⟩ := p
  have e : putV s dst v m k = k' (s.st.put dst (v, m)) := by
    unfold putV St.put
    cases dst with
    | none => exact hk _ h
    | some d => simp only [fcV_eq]; exact setF_eq s h d v m hk
  unfold putF
  cases mu <;> simp only [fcM_eq] <;> exact e
def semOpsF (cl : Cl S) (all : List Oper) (k : Sr S → D R) : List Oper → Sr S → D R
  | [], s => k s
  | o :: r, s =>
    match o.guard with
    | none => (semOpX C cl s.mem (s.ev C) o).bind fun p => putF (mutB o) s o.dst p (semOpsF cl all k r)
    | some (j, want) =>
      match (all[j]?).bind (·.dst) with
      | some d => match rget s.rows (Nat.div d 12) (Nat.mod d 12) with
        | some (.cell .bool b) =>
          let yes (s : Sr S) := (semOpX C cl s.mem (s.ev C) o).bind fun p => putF (mutB o) s o.dst p (semOpsF cl all k r)
          let no (s : Sr S) := putF false s o.dst (.tup [], s.mem) (semOpsF cl all k r)
          .split b (setF s d (.cell .bool true) s.mem fun s' => if want then yes s' else no s')
                   (setF s d (.cell .bool false) s.mem fun s' => if want then no s' else yes s')
        | some (.tup []) => putF false s o.dst (.tup [], s.mem) (semOpsF cl all k r)
        | _ => .fail
      | none => .fail
theorem semOpsF_eq (cl : Cl S) (all : List Oper) {k : Sr S → D R} {k' : St S → D R} (hk : ∀ s, RWf s.rows → k s = k' s.st) : ∀ (l : List Oper) (s : Sr S), RWf s.rows → semOpsF C cl all k l s = (semOps C cl all l s.st).bind k'
  | [], s, h => hk s h
  | o :: r, s, h => by
    have ih := semOpsF_eq cl all hk r
    have yes : ∀ s : Sr S, RWf s.rows → ((semOpX C cl s.mem (s.ev C) o).bind fun p => putF (mutB o) s o.dst p (semOpsF C cl all k r)) = ((semOpX C cl s.st.mem (s.st.ev C) o).bind fun p => semOps C cl all r (s.st.put o.dst p)).bind k' := by
      intro s h
      rw [D.bind_assoc, s.ev_eq C h]
      congr 1
      funext p
      exact putF_eq _ s h _ _ (k' := fun s => (semOps C cl all r s).bind k') ih
    have no : ∀ s : Sr S, RWf s.rows → putF false s o.dst (.tup [], s.mem) (semOpsF C cl all k r) = (semOps C cl all r (s.st.put o.dst (.tup [], s.st.mem))).bind k' := by
      intro s h
      exact putF_eq _ s h _ _ (k' := fun s => (semOps C cl all r s).bind k') ih
    unfold semOpsF semOps
    cases hg : o.guard with
    | none => exact yes s h
    | some g =>
      obtain ⟨j, want⟩ := g
      simp only
      cases hd : (all[j]?).bind (·.dst) with
      | none => rfl
      | some d =>
        simp only
        rw [rget_eq _ _ h]
        have e : (rflat s.rows)[d]? = s.st.tmps[d]? := rfl
        rw [e]
        have key : ∀ b : Bool, D.split b
            (setF s d (.cell .bool true) s.mem fun s' => if want then (semOpX C cl s'.mem (s'.ev C) o).bind fun p => putF (mutB o) s' o.dst p (semOpsF C cl all k r) else putF false s' o.dst (.tup [], s'.mem) (semOpsF C cl all k r))
            (setF s d (.cell .bool false) s.mem fun s' => if want then putF false s' o.dst (.tup [], s'.mem) (semOpsF C cl all k r) else (semOpX C cl s'.mem (s'.ev C) o).bind fun p => putF (mutB o) s' o.dst p (semOpsF C cl all k r)) =
            (D.split b (let s' : St S := { s.st with tmps := s.st.tmps.set d (.cell .bool true) }; if want then (semOpX C cl s'.mem (s'.ev C) o).bind fun p => semOps C cl all r (s'.put o.dst p) else semOps C cl all r (s'.put o.dst (.tup [], s'.mem)))
              (let s' : St S := { s.st with tmps := s.st.tmps.set d (.cell .bool false) }; if want then semOps C cl all r (s'.put o.dst (.tup [], s'.mem)) else (semOpX C cl s'.mem (s'.ev C) o).bind fun p => semOps C cl all r (s'.put o.dst p))).bind k' := by
          intro b
          simp only [D.bind]
          congr 1
          · refine (setF_eq s h d _ s.mem (k' := fun s' => (if want then (semOpX C cl s'.mem (s'.ev C) o).bind fun p => semOps C cl all r (s'.put o.dst p) else semOps C cl all r (s'.put o.dst (.tup [], s'.mem))).bind k') fun s' h' => ?_)
            cases want
            · exact no s' h'
            · exact yes s' h'
          · refine (setF_eq s h d _ s.mem (k' := fun s' => (if want then semOps C cl all r (s'.put o.dst (.tup [], s'.mem)) else (semOpX C cl s'.mem (s'.ev C) o).bind fun p => semOps C cl all r (s'.put o.dst p)).bind k') fun s' h' => ?_)
            cases want
            · exact yes s' h'
            · exact no s' h'
        cases hv : s.st.tmps[d]? with
        | none => rfl
        | some v => cases v with
          | cell t x => cases t with
            | bool => exact key x
            | _ => rfl
          | tup vs => cases vs with
            | nil => exact no s h
            | cons _ _ => rfl
          | _ => rfl
def exF (cl : Cl S) (L : Lp S R) (fin : St S → D R) : Nat → List Item → Sr S → D R
  | 0, _, _ => .fail
  | n + 1, todo, s =>
    match todo with
    | [] => fin s.st
    | .code .ret :: _ => fin s.st
    | .code .skip :: k | .code (.label _) :: k | .inBlock _ :: k | .inScope _ :: k => exF cl L fin n k s
    | .code (.seq a b) :: k => exF cl L fin n (.code a :: .code b :: k) s
    | .code (.cond c x y) :: k => match s.ev C c with
      | .cell .bool b => .split b (exF cl L fin n (.code x :: k) s) (exF cl L fin n (.code y :: k) s)
      | _ => .fail
    | .code (.block id b) :: k => exF cl L fin n (.code b :: .inBlock id :: k) s
    | .code (.scope b) :: k => exF cl L fin n (.code b :: .inScope b :: k) s
    | .code (.loop b) :: k | .inLoop b :: k => L (.inLoop b :: k) s.st
    | .code (.exit id) :: k => match exitTo id k with
      | some k' => exF cl L fin n k' s
      | none => .fail
    | .code (.region id ops dr) :: k => bif C.hk id then L (.code (.region id ops dr) :: k) s.st else semOpsF (C.dr dr) cl ops.toList (exF cl L fin n k) ops.toList s
    | _ => .fail
theorem exF_eq (cl : Cl S) (L : Lp S R) (fin : St S → D R) : ∀ (n : Nat) (todo : List Item) (s : Sr S), RWf s.rows → exF C cl L fin n todo s = ex C cl L fin n todo s.st
  | 0, _, _, _ => rfl
  | n + 1, todo, s, h => by
    have ih := exF_eq cl L fin n
    unfold exF ex
    cases todo with
    | nil => rfl
    | cons it k =>
      cases it with
      | code c =>
        cases c with
        | cond c x y =>
          have ih' := fun t => ih t s h
          simp only [s.ev_eq C h, ih']
          cases s.st.ev C c with
          | cell t x => cases t <;> rfl
          | _ => rfl
        | exit id =>
          have ih' := fun t => ih t s h
          simp only [ih']
          cases exitTo id k <;> rfl
        | region id ops draw =>
          simp only
          cases C.hk id with
          | true => rfl
          | false => exact semOpsF_eq (C.dr draw) cl _ (fun s h => ih _ s h) _ s h
        | _ => first | rfl | exact ih _ s h
      | _ => first | rfl | exact ih _ s h
/-- A state told whole. -/
def fcT {β : Type 1} (s : St S) (k : Sr S → β) : β := fcL s.tmps fun ts => fcM s.mem fun m => fcK ts ts fun rs => k { rows := rs, mem := m }
theorem fcT_eq {β : Type 1} (s : St S) (k : Sr S → β) (k' : St S → β) (hk : ∀ s, RWf s.rows → k s = k' s.st) : fcT s k = k' s := by
  unfold fcT
  rw [fcL_eq, fcM_eq, fcK_eq]
  have hc := chunk_ok s.tmps s.tmps (Nat.le_refl _)
  rw [hk _ hc.2]
  simp only [Sr.st, hc.1]
def clDF : Nat → Cl S
  | 0 => fun _ _ _ => .fail
  | d + 1 => fun f args m => match C.P.funcs[f]? with
    | some fn => match fn.body with
      | some b => fcT (st0 fn args m) fun s => exF C (clDF d) (fun _ _ => .fail) (fun s => (D.ofOpt (resV C fn.results.toList s)).bind fun v => .ret (v, s.mem)) fuel [.code b] s
      | none => .fail
    | none => .fail
theorem clDF_eq : ∀ d, clDF C d = clD C d
  | 0 => rfl
  | d + 1 => by
    funext f args m
    unfold clDF clD
    rw [clDF_eq d]
    cases C.P.funcs[f]? with
    | none => rfl
    | some fn =>
      simp only
      cases fn.body with
      | none => rfl
      | some b => exact fcT_eq _ _ (fun s => ex C (clD C d) (fun _ _ => .fail) (fun s => (D.ofOpt (resV C fn.results.toList s)).bind fun v => .ret (v, s.mem)) fuel [.code b] s) fun s h => exF_eq C _ _ _ _ _ s h
def runWF (cl : Cl S) (L : (St S → D R) → Lp S R) (f : FuncId) (ts : List Ty) (de : List (Cell S) → Option R) (args : List (V S)) : D R :=
  match body? C f with
  | some (fn, b) => fcT (st0 fn args []) fun s => exF C cl (L (finR C fn ts de)) (finR C fn ts de) fuel [.code b] s
  | none => .fail
theorem runWF_eq (d : Nat) (L : (St S → D R) → Lp S R) (f : FuncId) (ts : List Ty) (de : List (Cell S) → Option R) (args : List (V S)) : runW C (clD C d) L f ts de args = runWF C (clDF C d) L f ts de args := by
  unfold runWF runW
  rw [clDF_eq]
  cases body? C f with
  | none => rfl
  | some p => exact (fcT_eq _ _ (fun s => ex C (clD C d) (L (finR C p.1 ts de)) (finR C p.1 ts de) fuel [.code p.2] s) fun s h => exF_eq C _ _ _ _ _ s h).symm
def roundTF (cl : Cl S) (hd : List Item → St S → Option (St S)) (fin : St S → D R) (L : Lp S R) (s : St S) : List Item → D R
  | .inLoop c :: k => fcT s fun s => exF C cl (canonL hd L) fin fuel (.code c :: .inLoop c :: k) s
  | _ => .fail
def roundWF (cl : Cl S) (hd : List Item → St S → Option (St S)) (f : FuncId) (i : Nat) (ts : List Ty) (de : List (Cell S) → Option R) (L : Lp S R) (s : St S) : D R :=
  roundTF C cl hd (finW C f ts de) L s (todoOf C f i)
theorem roundWF_eq (d : Nat) (hd : List Item → St S → Option (St S)) (f : FuncId) (i : Nat) (ts : List Ty) (de : List (Cell S) → Option R) (L : Lp S R) (s : St S) : roundW C (clD C d) hd f i ts de L s = roundWF C (clDF C d) hd f i ts de L s := by
  unfold roundWF roundW
  rw [clDF_eq]
  cases todoOf C f i with
  | nil => rfl
  | cons x k => cases x with
    | inLoop c => exact (fcT_eq _ _ (fun s => ex C (clD C d) (canonL hd L) (finW C f ts de) fuel (.code c :: .inLoop c :: k) s) fun s h => exF_eq C _ _ _ _ _ s h).symm
    | _ => rfl
end
theorem run0_ev0 {C : Ctx S} {cl : Cl S} {R : Type} {hd : List Item → St S → Option (St S)} {f : FuncId} {ts : List Ty} {de : List (Cell S) → Option R} {F : Option R} (hev : ∀ L, (runW C cl L f ts de []).opt = F) {cs : List (Cell S)} {r : R} (h : run0 F cs = some r) :
    ∃ n, (runF C cl hd f ts de n (cs.map fun c => encV C.E c.t c.x)).opt = some r := by
  obtain ⟨rfl, h⟩ := inv0 h
  exact ⟨0, (hev _).trans h⟩
end Go.Lv
namespace Go.Lv
set_option linter.all false
open Go Go.RowKit
variable {S : Nat → Type}
section
variable {C : Ctx S} {cl : Cl S} {B : Nat} {h2 : Nat → Bool}
theorem RelM.hk {K : Gh} {w : World} {m : Mem S} (h : RelM C K w B m) : RelM { C with hk := h2 } K w B m := ⟨h.n, h.ob, h.inj, h.new, h.glob, h.base, h.old⟩
theorem RelM.unhk {K : Gh} {w : World} {m : Mem S} (h : RelM { C with hk := h2 } K w B m) : RelM C K w B m := ⟨h.n, h.ob, h.inj, h.new, h.glob, h.base, h.old⟩
theorem RelS.hk {K : Gh} {w : World} {s : St S} {a : Act} (h : RelS C K w B s a) : RelS { C with hk := h2 } K w B s a := ⟨h.size, h.tmps, h.defers, h.mem.hk⟩
theorem RelS.unhk {K : Gh} {w : World} {s : St S} {a : Act} (h : RelS { C with hk := h2 } K w B s a) : RelS C K w B s a := ⟨h.size, h.tmps, h.defers, h.mem.unhk⟩
theorem At.hk {K0 : Gh} {w0 w : World} {s : St S} {a : Act} (h : At C B K0 w0 s a w) : At { C with hk := h2 } B K0 w0 s a w := by
  obtain ⟨K, x1, x2, x3⟩ := h
  exact ⟨K, x1, x2, x3.hk⟩
theorem At.unhk {K0 : Gh} {w0 w : World} {s : St S} {a : Act} (h : At { C with hk := h2 } B K0 w0 s a w) : At C B K0 w0 s a w := by
  obtain ⟨K, x1, x2, x3⟩ := h
  exact ⟨K, x1, x2, x3.unhk⟩
theorem ClOK.hk (h : ClOK C cl) : ClOK { C with hk := h2 } cl := ⟨h.1, fun f hf => by
  obtain ⟨h1, h2⟩ := h.2 f hf
  refine ⟨h1, fun K w B m args vs x m' hm hl hr hx => ?_⟩
  refine (h2 K w B m args vs x m' hm.unhk hl hr hx).mono ?_
  rintro e w' ⟨v, K', a1, a2, a3, a4, a5⟩
  exact ⟨v, K', a1, a2, a3, a4.hk, a5⟩⟩
end
section
variable (C : Ctx S) (h2 : Nat → Bool) (cl : Cl S) {R : Type}
end
section
variable {C : Ctx S} {cl : Cl S} {B : Nat} {h2 : Nat → Bool}
section
variable (hE : EnvOK C.E) (hT : TyOK C) (hS : ∀ f sp, C.spec f = some sp → SpecOK C f sp) (hC : ClOK C cl) (hM : C.P.follows .mixedOrders = true) {K0 : Gh} (hK0 : K0.n = 0) {w0 : World} {b : Frame} {cs : List Frame}
    {R : Type} {fin : St S → D R} {T : R → Act → World → Prop} {hd : List Item → St S → Option (St S)} (hH : HdOK C hd)
    (hF : ∀ s r a w, At C B K0 w0 s a w → (fin s).opt = some r → T r a w)
include hE hT hS hC hM hK0 hH hF

omit hE hT hS hC hM hF in
end
end
end Go.Lv
namespace Go.Lv
set_option linter.all false
open Go Go.RowKit
variable {S : Nat → Type}
/-! Code without loops in whatever frame (a loop's round too), and with whatever calls deferred. -/
def wd (a : Act) (d : List Deferred) : Act := { a with defers := a.defers ++ d }
theorem wd_eval (a : Act) (d : List Deferred) : (wd a d).eval = a.eval := funext fun x => by cases x <;> rfl
theorem wd_put (a : Act) (d : List Deferred) (o : Option Tmp) (v : Value) : (wd a d).put o v = wd (a.put o v) d := by cases o <;> rfl
theorem wpOps_P {P : Program} {ops : Array Oper} {Q : Act → World → Prop} {b : Frame} {d : List Deferred} {k : List Item} {cs : List Frame} {l2 : List Nat} (hnd : ∀ o, o ∈ ops → ∀ c, o.op ≠ .defer c) :
    ∀ (l : List Nat) (a : Act) (w : World), wpOps P ops (fun e a' w' => e = .normal ∧ Q a' w') l a w →
      ∃ a' w', Q a' w' ∧ Steps P (lone (b.atR (wd a d) (.inRegion ops (l ++ l2) :: k)) cs w) (lone (b.atR (wd a' d) (.inRegion ops l2 :: k)) cs w')
  | [], a, w, h => ⟨a, w, h.2, Steps.refl _ _⟩
  | i :: rest, a, w, h => by
    rw [List.cons_append]
    unfold wpOps at h
    cases ho : ops[i]? with
    | none =>
      rw [ho] at h
      obtain ⟨a', w', hq, hs⟩ := wpOps_P hnd rest a w h
      refine ⟨a', w', hq, .head ?_ hs⟩
      have := stepR_op_skip (P := P) (b := b) (a := wd a d) (k := k) (cs := cs) (w := w) (ops := ops) (i := i) (rest := rest ++ l2) (by rw [ho]; rfl)
      rw [ho] at this
      exact this
    | some o =>
      rw [ho] at h
      simp only at h
      have hno := hnd o (Array.mem_of_getElem? ho)
      by_cases hw : Region.wanted o (yielded ops a.tmps) = true
      · rw [if_pos hw] at h
        rcases h with h | ⟨_, _, _, hq⟩
        case inr => cases hq.1
        have hg := stepGR_op (P := P) (b := b) (a := wd a d) (k := k) (cs := cs) (w := w) (rest := rest ++ l2) ho hw
        rw [Oper.semAt_eq _ _ _ hno, wd_eval] at hg
        have hfin : ∀ v, (b.atR (wd a d) (.inRegion ops (i :: (rest ++ l2)) :: k)).finish v = b.atR (wd (a.put o.dst v) d) (.inRegion ops (rest ++ l2) :: k) := fun v => by
          rw [Frame.finish_atR, ho, wd_put]; rfl
        unfold Oper.wp at h
        cases hr : (execOp a.eval o).run P w with
        | halt x w1 =>
          rw [hr] at h
          cases x with
          | panic v => cases h.1
          | _ => exact h.elim
        | ok nx w1 =>
          rw [hr] at h
          cases nx with
          | value v =>
            obtain ⟨a', w', hq, hs⟩ := wpOps_P hnd rest _ _ h
            refine ⟨a', w', hq, .head (step_lone_go ?_) hs⟩
            rw [hg, ← hfin]; simp [stepG.apply, hr]
          | skip =>
            obtain ⟨a', w', hq, hs⟩ := wpOps_P hnd rest _ _ h
            refine ⟨a', w', hq, .head (step_lone_go ?_) hs⟩
            rw [hg, ← hfin]; simp [stepG.apply, hr]
          | enter f args =>
            obtain ⟨e, w2, fr, hR, hsteps, _, hleave⟩ := h (b.atR (wd a d) (.inRegion ops (i :: (rest ++ l2)) :: k) :: cs)
            cases e with
            | panicked ch => cases hR.1
            | outgrown => obtain ⟨_, _, q⟩ := hR; cases q.1
            | returned v =>
              obtain ⟨a', w', hq, hs⟩ := wpOps_P hnd rest _ _ hR
              have henter : step P (lone (b.atR (wd a d) (.inRegion ops (i :: (rest ++ l2)) :: k)) cs w) = .next (lone (Frame.enter P f args .normal) (b.atR (wd a d) (.inRegion ops (i :: (rest ++ l2)) :: k) :: cs) w1) :=
                step_lone_go (by rw [hg]; simp [stepG.apply, hr, Frame.atR])
              refine ⟨a', w', hq, .head henter (Steps.trans hsteps (.head ?_ hs))⟩
              rw [← hfin]; exact step_leave_returned hleave
          | row row args =>
            obtain ⟨v, w2, hR, hsteps⟩ := h (b.atR (wd a d) (.inRegion ops (i :: (rest ++ l2)) :: k)) cs
            obtain ⟨a', w', hq, hs⟩ := wpOps_P hnd rest _ _ hR
            have henter : step P (lone (b.atR (wd a d) (.inRegion ops (i :: (rest ++ l2)) :: k)) cs w) = .next (lone (Frame.ofRow P row args .normal) (b.atR (wd a d) (.inRegion ops (i :: (rest ++ l2)) :: k) :: cs) w1) :=
              step_lone_go (by rw [hg]; simp [stepG.apply, hr, Frame.atR])
            refine ⟨a', w', hq, .head henter (Steps.trans hsteps ?_)⟩
            rw [hfin]; exact hs
          | defer dd =>
            obtain ⟨a', w', hq, hs⟩ := wpOps_P hnd rest _ _ h
            refine ⟨a', w', hq, .head (step_lone_go (fr' := b.atR (wd ({ a with defers := dd :: a.defers }.put o.dst undef) d) (.inRegion ops (rest ++ l2) :: k)) (cs' := cs) (w' := w1) ?_) hs⟩
            have e : ({ b.atR (wd a d) (.inRegion ops (i :: (rest ++ l2)) :: k) with defers := dd :: (wd a d).defers } : Frame).finish undef = b.atR (wd ({ a with defers := dd :: a.defers }.put o.dst undef) d) (.inRegion ops (rest ++ l2) :: k) := by
              have := Frame.finish_atR b (wd { a with defers := dd :: a.defers } d) ops i (rest ++ l2) k undef
              rw [ho, wd_put] at this
              exact this
            rw [hg]
            simp only [stepG.apply, Sem.runT_eq, hr, GStep.bare_after]
            exact congrArg (fun fr => GStep.go { frame := fr, callers := cs, status := .running, dying := none } w1) e
          | _ => exact h.elim
      · rw [if_neg hw] at h
        obtain ⟨a', w', hq, hs⟩ := wpOps_P hnd rest _ w h
        refine ⟨a', w', hq, .head ?_ hs⟩
        have := stepR_op_skip (P := P) (b := b) (a := wd a d) (k := k) (cs := cs) (w := w) (ops := ops) (i := i) (rest := rest ++ l2) (by rw [ho]; exact (show Region.wanted o (yielded ops a.tmps) = false by simpa using hw))
        rw [ho, wd_put] at this
        exact this
theorem wpOps_R {P : Program} {ops : Array Oper} {Q : Act → World → Prop} {b : Frame} {d : List Deferred} {k : List Item} {cs : List Frame} (hnd : ∀ o, o ∈ ops → ∀ c, o.op ≠ .defer c)
    (l : List Nat) (a : Act) (w : World) (h : wpOps P ops (fun e a' w' => e = .normal ∧ Q a' w') l a w) :
    ∃ a' w', Q a' w' ∧ Steps P (lone (b.atR (wd a d) (.inRegion ops l :: k)) cs w) (lone (b.atR (wd a' d) k) cs w') := by
  obtain ⟨a', w', hq, hs⟩ := wpOps_P (b := b) (d := d) (k := k) (cs := cs) (l2 := []) hnd l a w h
  rw [List.append_nil] at hs
  exact ⟨a', w', hq, Steps.trans hs (.one stepR_region_end)⟩
section
variable (C : Ctx S) (cl : Cl S) {R : Type}
/-- Code without loops and jumps, and what comes behind. -/
def exC : Code → St S → (St S → D R) → D R
  | .skip, s, k => k s
  | .seq a b, s, k => exC a s fun s' => exC b s' k
  | .cond c x y, s, k => match s.ev C c with
    | .cell .bool b => .split b (exC x s k) (exC y s k)
    | _ => .fail
  | .block _ b, s, k => exC b s k
  | .scope b, s, k => exC b s k
  | .region _ ops dr, s, k => (semOps (C.dr dr) cl ops.toList ops.toList s).bind k
  | _, _, _ => .fail
/-- No deferred calls. -/
def ndOps (ops : Array Oper) : Bool := ops.toList.all fun o => match o.op with | .defer _ => false | _ => true
def ndCode : Code → Bool
  | .seq a b => ndCode a && ndCode b
  | .cond _ a b => ndCode a && ndCode b
  | .block _ b => ndCode b
  | .scope b => ndCode b
  | .region _ ops _ => ndOps ops
  | _ => true
end
theorem ndOps_ok {ops : Array Oper} (h : ndOps ops = true) : ∀ o, o ∈ ops → ∀ c, o.op ≠ .defer c := by
  intro o ho c hc
  have := List.all_eq_true.1 h o (by simpa using ho)
  rw [hc] at this; cases this
section
variable {C : Ctx S} {cl : Cl S} {B : Nat}
theorem Ext.drew (K : Gh) (w : World) : Ext K w K { w with drawn := w.drawn + 1 } := ⟨Nat.le_refl _, fun _ _ => ⟨Nat.le_refl _, fun _ => ⟨rfl, rfl, rfl⟩⟩, fun _ => Nat.le_refl _, fun _ _ _ => rfl, fun _ _ _ h => keeps.of h, .inr rfl⟩
theorem RelS.drew {K : Gh} {w : World} {s : St S} {a : Act} (h : RelS C K w B s a) : RelS C K { w with drawn := w.drawn + 1 } B s a :=
  ⟨h.size, fun j c v p q => (h.tmps j c v p q).mono (Ext.drew K w), h.defers, h.mem.frame (Ext.drew K w) rfl (fun _ _ => ⟨rfl, rfl, rfl, rfl, rfl⟩) (fun _ _ _ => rfl) (fun _ _ _ => rfl) (fun b' hb => h.mem.new b' hb) (Nat.le_refl _) (fun _ _ => rfl)⟩
theorem exC_ok (hE : EnvOK C.E) (hT : TyOK C) (hS : ∀ f sp, C.spec f = some sp → SpecOK C f sp) (hC : ClOK C cl) (hM : C.P.follows .mixedOrders = true) {K0 : Gh} {w0 : World} {b : Frame} {d : List Deferred} {cs : List Frame} {R : Type} :
    ∀ (c : Code) (k : St S → D R) (r : R) (rest : List Item) (s : St S) (a : Act) (w : World), codeOk C c = true → ndCode c = true → At C B K0 w0 s a w → (exC C cl c s k).opt = some r →
      ∃ s' a' w', At C B K0 w0 s' a' w' ∧ (k s').opt = some r ∧ Steps C.P (lone (b.atR (wd a d) (.code c :: rest)) cs w) (lone (b.atR (wd a' d) rest) cs w')
  | .skip, k, r, rest, s, a, w, _, _, hA, h => ⟨s, a, w, hA, h, .one stepR_skip⟩
  | .seq x y, k, r, rest, s, a, w, hk, hn, hA, h => by
    simp only [codeOk, ndCode, Bool.and_eq_true] at hk hn
    obtain ⟨s1, a1, w1, hA1, h1, st1⟩ := exC_ok hE hT hS hC hM x _ r (.code y :: rest) s a w hk.1 hn.1 hA h
    obtain ⟨s2, a2, w2, hA2, h2, st2⟩ := exC_ok hE hT hS hC hM y k r rest s1 a1 w1 hk.2 hn.2 hA1 h1
    exact ⟨s2, a2, w2, hA2, h2, .head stepR_seq (Steps.trans st1 st2)⟩
  | .cond c x y, k, r, rest, s, a, w, hk, hn, hA, h => by
    simp only [codeOk, ndCode, Bool.and_eq_true] at hk hn
    have hA' := hA
    obtain ⟨K, x1, x2, x3⟩ := hA
    have hc := x3.ev c
    simp only [exC] at h
    split at h
    · rename_i bb hb
      rw [hb] at hc
      have hcv : (wd a d).eval c = .bool bb := by rw [wd_eval]; exact bool_of hc
      rcases split_some h with ⟨hbb, h⟩ | ⟨hbb, h⟩
      · obtain ⟨s1, a1, w1, hA1, h1, st1⟩ := exC_ok hE hT hS hC hM x k r rest s a w hk.1 hn.1 hA' h
        exact ⟨s1, a1, w1, hA1, h1, .head (stepR_cond (t := true) (hcv.trans (congrArg Value.bool hbb))) st1⟩
      · obtain ⟨s1, a1, w1, hA1, h1, st1⟩ := exC_ok hE hT hS hC hM y k r rest s a w hk.2 hn.2 hA' h
        exact ⟨s1, a1, w1, hA1, h1, .head (stepR_cond (t := false) (hcv.trans (congrArg Value.bool hbb))) st1⟩
    · simp [D.opt] at h
  | .block id x, k, r, rest, s, a, w, hk, hn, hA, h => by
    simp only [codeOk, ndCode] at hk hn
    obtain ⟨s1, a1, w1, hA1, h1, st1⟩ := exC_ok hE hT hS hC hM x k r (.inBlock id :: rest) s a w hk hn hA h
    exact ⟨s1, a1, w1, hA1, h1, .head stepR_block (Steps.trans st1 (.one stepR_inBlock))⟩
  | .region id ops dr, k, r, rest, s, a, w, hk, hn, hA, h => by
    have hn : ndOps ops = true := hn
    simp only [exC] at h
    obtain ⟨s', hs', h9⟩ := opt_bind_some h
    clear h
    obtain ⟨bb, hD⟩ := dr_is C dr
    rw [hD] at hs'
    have hrun := semOps_run (C := { C with fl := bb }) (cl := cl) (all := ops.toList) ops.toList 0 s s' (fun i => by simp) hs'
    obtain ⟨K, x1, x2, x3⟩ := hA
    have hrange : List.range' 0 ops.toList.length = List.range ops.size := by rw [List.range_eq_range']; simp
    rw [hrange] at hrun
    have go : ∀ (l : List Nat) (w1 : World), Ext K0 w0 K w1 → Below B w0 w1 → RelS C K w1 B s a → runL { C with fl := bb } cl ops.toList l s = some s' →
        ∃ a' w', At C B K0 w0 s' a' w' ∧ Steps C.P (lone (b.atR (wd a d) (.inRegion ops l :: rest)) cs w1) (lone (b.atR (wd a' d) rest) cs w') := by
      intro l w1 y1 y2 y3 hl
      have := run_ok (Q := fun e a' w' => e = .normal ∧ At C B K0 w0 s' a' w') (C := { C with fl := bb }) (cl := cl) hE hT (fun f sp q => hS f sp q) hC.fl ops l K w1 s s' a y3.fl hl (fun K' w' a' z1 z2 z3 => ⟨rfl, K', y1.trans z1, y2.trans z2, z3.unfl⟩)
      exact wpOps_R (ndOps_ok hn) l a w1 this
    cases dr with
    | false =>
      obtain ⟨a', w', hA', st⟩ := go _ w x1 x2 x3 hrun
      exact ⟨s', a', w', hA', h9, .head stepR_region st⟩
    | true =>
      have hk : chkRegion (C.dr true) ops.toList = true := hk
      rw [hD] at hk
      obtain ⟨a', w', hA', st⟩ := go (Region.schedule (C.P.follows .mixedOrders) ops (w.tape w.drawn (.order b.fn id))) { w with drawn := w.drawn + 1 } (x1.trans (Ext.drew K w)) (x2.trans ⟨rfl, rfl, rfl, Nat.le_refl _, fun _ _ => rfl⟩) x3.drew (by rw [hM]; exact sched_ok (C := { C with fl := bb }) hE hC.fl.1 ops hk _ _ _ hrun)
      exact ⟨s', a', w', hA', h9, .head stepR_region_draw st⟩
  | .scope x, k, r, rest, s, a, w, hk, hn, hA, h => by
    simp only [codeOk, ndCode] at hk hn
    obtain ⟨s1, a1, w1, hA1, h1, st1⟩ := exC_ok (b := b) (d := d) (cs := cs) hE hT hS hC hM x k r (.inScope x :: rest) s a w hk hn hA h
    refine ⟨s1, a1, w1, hA1, h1, .head ?_ (Steps.trans st1 (.one ?_))⟩
    · exact step_lone_go (by simp [stepG, stepG.exec, Frame.atR])
    · exact step_lone_go (by simp [stepG, stepG.exec, Frame.atR])
  | .ret, k, r, rest, s, a, w, _, _, _, h => by simp [exC, D.opt] at h
  | .label _, k, r, rest, s, a, w, _, _, _, h => by simp [exC, D.opt] at h
  | .loop _, k, r, rest, s, a, w, _, _, _, h => by simp [exC, D.opt] at h
  | .exit _, k, r, rest, s, a, w, _, _, _, h => by simp [exC, D.opt] at h
  | .goto _, k, r, rest, s, a, w, _, _, _, h => by simp [exC, D.opt] at h
  | .rangeFunc _ _ _ _, k, r, rest, s, a, w, _, _, _, h => by simp [exC, D.opt] at h
  | .refuse _, k, r, rest, s, a, w, _, _, _, h => by simp [exC, D.opt] at h
end
end Go.Lv
namespace Go.Lv
set_option linter.all false
open Go Go.RowKit
variable {S : Nat → Type}
/-! A range over a function: its rounds are run in frames of their own, over the temporaries as they stood at the loop's start. -/
def RepL (E : Env S) (K : Gh) (w : World) (v2 : Array Value) (t2 : List (V S)) : Prop := v2.size = t2.length ∧ ∀ (j : Nat) (c : Value) (v : V S), v2[j]? = some c → t2[j]? = some v → RepV E K w c v
theorem RepL.mono {E : Env S} {K K' : Gh} {w w' : World} {v2 : Array Value} {t2 : List (V S)} (h : RepL E K w v2 t2) (hx : Ext K w K' w') : RepL E K' w' v2 t2 := ⟨h.1, fun j c v p q => (h.2 j c v p q).mono hx⟩
section
variable {C : Ctx S} {cl : Cl S} {B : Nat}
theorem RepL.set {K : Gh} {w : World} {v2 : Array Value} {t2 : List (V S)} (h : RepL C.E K w v2 t2) (p : Nat) {x : Value} {y : V S} (hx : RepV C.E K w x y) : RepL C.E K w (v2.setIfInBounds p x) (t2.set p y) := by
  refine ⟨by simp [h.1], fun j c v hc hv => ?_⟩
  by_cases e : p = j
  · subst e
    by_cases q : p < v2.size
    · rw [Array.getElem?_setIfInBounds_self_of_lt q] at hc
      rw [List.getElem?_set_self (by rw [← h.1]; exact q)] at hv
      cases hc; cases hv; exact hx
    · have : ¬ p < (v2.setIfInBounds p x).size := by simpa using q
      rw [Array.getElem?_eq_none (by omega)] at hc
      cases hc
  · rw [Array.getElem?_setIfInBounds_ne e] at hc
    rw [List.getElem?_set_ne e] at hv
    exact h.2 j c v hc hv
theorem below_putObj {w : World} {b : Nat} (o : Obj) (h : B ≤ b) : Below B w (w.putObj b o) := ⟨rfl, rfl, rfl, by simp, fun k hk => World.putObj_heap_other (by omega)⟩
/-- A block of another kind is turned. -/
theorem RelM.oth_set {K : Gh} {w : World} {m : Mem S} (h : RelM C K w B m) {i : Nat} {o : Obj} (hm : m[i]? = some (.oth o)) (o' : Obj) (hc : ∀ c t f, o' ≠ .cells c t f) :
    Ext K w K (w.putObj (K.ι i) o') ∧ RelM C K (w.putObj (K.ι i) o') B (m.set i (.oth o')) ∧ Below B w (w.putObj (K.ι i) o') := by
  obtain ⟨h0, hl, h1, h2, h3, h4⟩ := h.ob i _ hm
  have hlt : K.ι i < w.heap.size := (Array.getElem?_eq_some_iff.1 h1).1
  have hin : i < K.n := by rw [h.n]; exact (List.getElem?_eq_some_iff.1 hm).1
  have hx : Ext K w K (w.putObj (K.ι i) o') := by
    refine ⟨Nat.le_refl _, fun _ _ => ⟨Nat.le_refl _, fun _ => ⟨rfl, rfl, rfl⟩⟩, fun _ => Nat.le_refl _, fun b q hq => ?_, fun b q h0 hb => ?_, .inr rfl⟩
    · have hne : b ≠ K.ι i := fun e => by rw [e, h3] at hq; omega
      exact World.cell?_of_block (a := ⟨b, q, none⟩) (World.putObj_heap_other hne)
    · have hne : b ≠ K.ι i := fun e => by rw [e, h3] at h0; omega
      rw [World.putObj_heap_other hne]; exact keeps.of hb
  refine ⟨hx, ?_, below_putObj o' h4⟩
  refine h.set hin hx rfl (fun j _ _ => ⟨rfl, rfl, rfl, rfl, rfl⟩) (fun _ => .inl rfl) (fun k _ hk => World.putObj_heap_other (hk hl)) (by simp) (fun _ => .inl ⟨hl, rfl⟩) (fun b hb => h.new b (by simpa using hb)) ?_
  exact ⟨h0, hl, World.putObj_heap_same hlt, hc, h3, h4⟩
/-- A block of another kind is laid. -/
theorem RelM.oth_new {K : Gh} {w : World} {m : Mem S} (h : RelM C K w B m) (o : Obj) (hc : ∀ c t f, o ≠ .cells c t f) :
    ∃ K', Ext K w K' (w.alloc o) ∧ RelM C K' (w.alloc o) B (m ++ [.oth o]) ∧ Below B w (w.alloc o) ∧ K'.ι m.length = w.heap.size ∧ K'.gen m.length = 0 ∧ m.length < K'.n := by
  have hb : ∀ k, k < w.heap.size → (w.alloc o).heap[k]? = w.heap[k]? := fun k hk => Below.heap_alloc w o k hk
  obtain ⟨r1, x1⟩ := h.push (b := w.heap.size) (hv := .nilIface) (esz := 0) (live := true) (o := .oth o) (w' := w.alloc o) (by simp) hb (fun _ => Nat.le_refl _)
    ⟨by simp [Gh.push], by simp [Gh.push], by simp only [Gh.push, if_pos]; exact World.alloc_heap_new w o, hc, by simp only [Gh.push, if_pos]; exact h.new _ (Nat.le_refl _), by simp only [Gh.push, if_pos]; exact h.base⟩
  exact ⟨_, x1, r1, (Below.refl B w).alloc h.base _, by rw [← h.n]; simp [Gh.push], by rw [← h.n]; simp [Gh.push], by rw [← h.n]; simp [Gh.push]⟩
theorem Ext.oth {K K' : Gh} {w w' : World} {m m' : Mem S} (hx : Ext K w K' w') (h : RelM C K w B m) (h' : RelM C K' w' B m') {i : Nat} {o o' : Obj} (hm : m[i]? = some (.oth o)) (hm' : m'[i]? = some (.oth o')) : K'.ι i = K.ι i := by
  have hin : i < K.n := by rw [h.n]; exact (List.getElem?_eq_some_iff.1 hm).1
  obtain ⟨h0, _⟩ := h.ob i _ hm
  obtain ⟨h0', _⟩ := h'.ob i _ hm'
  exact ((hx.id i hin).2 (h0'.trans h0.symm)).1
theorem wd_nil {a : Act} (h : a.defers = []) : wd a [] = a := by cases a; simp [wd]
/-- One round. -/
theorem round_ok (hE : EnvOK C.E) (hT : TyOK C) (hS : ∀ f sp, C.spec f = some sp → SpecOK C f sp) (hC : ClOK C cl) (hM : C.P.follows .mixedOrders = true) {K0 : Gh} {w0 : World} {si : St S} {ai : Act} {t2 : List (V S)} {v2 : Array Value} {w : World}
    {K : Gh} (x1 : Ext K0 w0 K w) (x2 : Below B w0 w) (x3 : RelS C K w B si ai) (x4 : RepL C.E K w v2 t2) {iL : Nat} {rec : Loop} (hm : si.mem[iL]? = some (.oth (.loop rec))) (hrs : rec.state = .ready) (hrp : rec.pending = none)
    {p : Nat} {vx : Value} {vy : V S} (hv : RepV C.E K w vx vy) (c : Frame) (cs : List Frame) {s1 s2 : St S}
    (ha : (exC C cl rec.assign { tmps := t2.set p vy, mem := si.mem } (fun s => .ret s)).opt = some s1) (h1 : s1.mem[iL]? = some (.oth (.loop rec)))
    (hb : (exC C cl rec.body { s1 with mem := s1.mem.set iL (.oth (.loop { rec with state := .busy })) } (fun s => .ret s)).opt = some s2) (h2 : s2.mem[iL]? = some (.oth (.loop { rec with state := .busy })))
    (ok1 : codeOk C rec.assign = true) (ok2 : codeOk C rec.body = true) (n1 : ndCode rec.assign = true) (n2 : ndCode rec.body = true) :
    ∃ K' w', Ext K0 w0 K' w' ∧ Below B w0 w' ∧ RelS C K' w' B { si with mem := s2.mem.set iL (.oth (.loop rec)) } ai ∧ RepL C.E K' w' v2 t2 ∧ K'.ι iL = K.ι iL ∧ Ext K w K' w' ∧
      Steps C.P (lone (Frame.round (K.ι iL) rec.fn (v2.setIfInBounds p vx) rec.assign rec.body .normal) (c :: cs) w) (lone (c.finish (.bool true)) cs w') := by
  let rb : Frame := { (default : Frame) with fn := rec.fn, kind := .normal, roundOf := some (K.ι iL) }
  have hfr : Frame.round (K.ι iL) rec.fn (v2.setIfInBounds p vx) rec.assign rec.body .normal = rb.atR { tmps := v2.setIfInBounds p vx, defers := [] } [.code rec.assign, .beginRound, .code rec.body] := by
    simp [Frame.round, Frame.atR, rb]
  have y4 := x4.set (C := C) p hv
  have hr0 : RelS C K w B { tmps := t2.set p vy, mem := si.mem } { tmps := v2.setIfInBounds p vx, defers := [] } := ⟨y4.1, y4.2, rfl, x3.mem⟩
  obtain ⟨s1', a1, w1, ⟨K1, z1, z2, z3⟩, e1, st1⟩ := exC_ok (b := rb) (d := []) (cs := c :: cs) hE hT hS hC hM rec.assign (fun s => .ret s) s1 [.beginRound, .code rec.body] _ _ w ok1 n1 ⟨K, .refl K w, Below.refl B w, hr0⟩ ha
  simp only [D.opt, Option.some.injEq] at e1
  subst e1
  have i1 : K1.ι iL = K.ι iL := z1.oth x3.mem z3.mem hm h1
  obtain ⟨_, _, g1, _, _, _⟩ := z3.mem.ob iL _ h1
  rw [i1] at g1
  obtain ⟨u1, u2, u3⟩ := z3.mem.oth_set h1 (.loop { rec with state := .busy }) (fun _ _ _ e => by cases e)
  rw [i1] at u1 u2 u3
  have sb : step C.P (lone (rb.atR (wd a1 []) [.beginRound, .code rec.body]) (c :: cs) w1) = .next (lone (rb.atR (wd a1 []) [.code rec.body]) (c :: cs) (w1.putObj (K.ι iL) (.loop { rec with state := .busy }))) :=
    stepR_beginRound rfl (run_beginRound g1 hrs)
  have hr1 : RelS C K1 (w1.putObj (K.ι iL) (.loop { rec with state := .busy })) B { s1' with mem := s1'.mem.set iL (.oth (.loop { rec with state := .busy })) } a1 := z3.ext u1 u2
  obtain ⟨s2', a2, w2, ⟨K2, q1, q2, q3⟩, e2, st2⟩ := exC_ok (b := rb) (d := []) (cs := c :: cs) hE hT hS hC hM rec.body (fun s => .ret s) s2 [] _ _ _ ok2 n2 ⟨K1, .refl K1 _, Below.refl B _, hr1⟩ hb
  simp only [D.opt, Option.some.injEq] at e2
  subst e2
  have hset : (s1'.mem.set iL (.oth (.loop { rec with state := .busy })))[iL]? = some (.oth (.loop { rec with state := .busy })) := List.getElem?_set_self (List.getElem?_eq_some_iff.1 h1).1
  have i2 : K2.ι iL = K.ι iL := (q1.oth hr1.mem q3.mem hset h2).trans i1
  obtain ⟨_, _, g2, _, _, _⟩ := q3.mem.ob iL _ h2
  rw [i2] at g2
  obtain ⟨p1, p2, p3⟩ := q3.mem.oth_set h2 (.loop rec) (fun _ _ _ e => by cases e)
  rw [i2] at p1 p2 p3
  have hend : (Instr.endRound (K.ι iL) none).run C.P w2 = .ok (.bool true) (w2.putObj (K.ι iL) (.loop rec)) := by
    have := run_endRound (P := C.P) none g2
    rw [this]
    have er : ({ ({ rec with state := .busy } : Loop) with state := if (none : Option Code).isNone then .ready else .done, pending := none } : Loop) = rec := by
      cases rec; simp only at hrs hrp; subst hrs hrp; rfl
    rw [er]; rfl
  have se : step C.P (lone (rb.atR (wd a2 []) []) (c :: cs) w2) = .next (lone (c.finish (.bool true)) cs (w2.putObj (K.ι iL) (.loop rec))) := stepR_round_end rfl rfl hend
  have hxx : Ext K w K2 (w2.putObj (K.ι iL) (.loop rec)) := ((z1.trans u1).trans q1).trans p1
  have hbb : Below B w (w2.putObj (K.ι iL) (.loop rec)) := ((z2.trans u3).trans q2).trans p3
  refine ⟨K2, _, x1.trans hxx, x2.trans hbb, x3.ext hxx p2, x4.mono hxx, i2, hxx, ?_⟩
  rw [hfr]
  have st1' : Steps C.P (lone (rb.atR { tmps := v2.setIfInBounds p vx, defers := [] } [.code rec.assign, .beginRound, .code rec.body]) (c :: cs) w) (lone (rb.atR (wd a1 []) [.beginRound, .code rec.body]) (c :: cs) w1) := st1
  exact Steps.trans st1' (.head sb (Steps.trans st2 (.one se)))
/-- A call of yield asks for a round. -/
theorem yield_step {P : Program} {ops : Array Oper} {i : Nat} {rest : List Nat} {k : List Item} {cs : List Frame} {ib : Frame} {a : Act} {w : World} {o : Oper} (ho : ops[i]? = some o) (hgd : o.guard = none) {f x : Operand} {at' : Array TypeId}
    (hop : o.op = .call { callee := .value f, args := #[x], argTypes := at' }) {l : Nat} {rec : Loop} (hf : a.eval f = .func (.yield l) #[] #[]) (hl : w.heap[l]? = some (.loop rec)) {p : Nat} (hp : rec.params = #[p]) (hro : ib.roundOf = none) :
    step P (lone (ib.atR a (.inRegion ops (i :: rest) :: k)) cs w) = .next (lone (Frame.round l rec.fn (rec.tmps.setIfInBounds p (a.eval x)) rec.assign rec.body .normal) (ib.atR a (.inRegion ops (i :: rest) :: k) :: cs) w) := by
  have hw : Region.wanted o (yielded ops a.tmps) = true := by simp [Region.wanted, hgd]
  have hg := stepGR_op (P := P) (b := ib) (a := a) (k := k) (cs := cs) (w := w) (rest := rest) ho hw
  rw [hro, Oper.semAt_none] at hg
  have hy := run_yield (P := P) (args := #[a.eval x]) hl (by rw [hp]; rfl)
  rw [hp] at hy
  have hr : (execOp a.eval o).run P w = .ok (.round l rec.fn (rec.tmps.setIfInBounds p (a.eval x)) rec.assign rec.body) w := by
    simp only [execOp, hop, resolve, hf, Deferred.ofValue, Sem.run_bind, Sem.run_pure, Result.andThen_ok, invoke]
    simpa using hy
  exact step_lone_go (by rw [hg]; simp [stepG.apply, hr])
theorem it_yield (hE : EnvOK C.E) (hT : TyOK C) (hS : ∀ f sp, C.spec f = some sp → SpecOK C f sp) (hC : ClOK C cl) (hM : C.P.follows .mixedOrders = true) {s : St S} {a : Act} {t2 : List (V S)} {v2 : Array Value} {w : World} {K : Gh}
    (x3 : RelS C K w B s a) (x4 : RepL C.E K w v2 t2) {iL : Nat} {rec : Loop} (hm : s.mem[iL]? = some (.oth (.loop rec))) (hrs : rec.state = .ready) (hrp : rec.pending = none) {p : Nat} (hp : rec.params = #[p]) (hv2 : rec.tmps = v2)
    {ops : Array Oper} {iy : Nat} {l2 : List Nat} {k : List Item} {cs : List Frame} {ib : Frame} {o : Oper} (ho : ops[iy]? = some o) (hgd : o.guard = none) {f tx : Nat} {at' : Array TypeId} (hop : o.op = .call { callee := .value (.tmp f), args := #[.tmp tx], argTypes := at' })
    {dd : Nat} (hd : o.dst = some dd) (hf : s.tmps[f]? = some (.yld iL)) {vy : V S} (hx : s.tmps[tx]? = some vy) (hro : ib.roundOf = none) {s1 s2 : St S}
    (ha : (exC C cl rec.assign { tmps := t2.set p vy, mem := s.mem } (fun s => .ret s)).opt = some s1) (h1 : s1.mem[iL]? = some (.oth (.loop rec)))
    (hb : (exC C cl rec.body { s1 with mem := s1.mem.set iL (.oth (.loop { rec with state := .busy })) } (fun s => .ret s)).opt = some s2) (h2 : s2.mem[iL]? = some (.oth (.loop { rec with state := .busy })))
    (ok1 : codeOk C rec.assign = true) (ok2 : codeOk C rec.body = true) (n1 : ndCode rec.assign = true) (n2 : ndCode rec.body = true) :
    ∃ K' w', Ext K w K' w' ∧ Below B w w' ∧ RelS C K' w' B { tmps := s.tmps.set dd (.cell .bool true), mem := s2.mem.set iL (.oth (.loop rec)) } (a.put (some dd) (.bool true)) ∧ RepL C.E K' w' v2 t2 ∧ K'.ι iL = K.ι iL ∧
      Steps C.P (lone (ib.atR a (.inRegion ops (iy :: l2) :: k)) cs w) (lone (ib.atR (a.put (some dd) (.bool true)) (.inRegion ops l2 :: k)) cs w') := by
  obtain ⟨g0, _, g1, _, _, _⟩ := x3.mem.ob iL _ hm
  have get : ∀ (j : Nat) (v : V S), s.tmps[j]? = some v → RepV C.E K w (a.tmps.getD j Go.undef) v := fun j v hj => by
    have := RepV.getD x3.size x3.tmps j
    rw [List.getD_eq_getElem?_getD, hj] at this
    exact this
  have hfv : a.eval (.tmp f) = .func (.yield (K.ι iL)) #[] #[] := by
    have := get f _ hf
    show a.tmps.getD f Go.undef = _
    generalize a.tmps.getD f Go.undef = u at this
    cases this with
    | yld _ _ _ _ hh => exact hh g0
  have st0 := yield_step (P := C.P) (rest := l2) (k := k) (cs := cs) (ib := ib) (a := a) (w := w) ho hgd hop hfv g1 hp hro
  rw [hv2] at st0
  obtain ⟨K', w', y1, y2, y3, y4, y5, _, st⟩ := round_ok hE hT hS hC hM (.refl K w) (Below.refl B w) x3 x4 hm hrs hrp (p := p) (vx := a.tmps.getD tx Go.undef) (get tx vy hx) (ib.atR a (.inRegion ops (iy :: l2) :: k)) cs ha h1 hb h2 ok1 ok2 n1 n2
  refine ⟨K', w', y1, y2, ?_, y4, y5, .head st0 ?_⟩
  · exact y3.put (.refl K' w') y3.mem (.cell (.bool true)) (some dd)
  · have := st
    rw [Frame.finish_atR, ho] at this
    simp only [Option.bind_some, hd] at this
    exact this
theorem exC_2 (hE : EnvOK C.E) (hT : TyOK C) (hS : ∀ f sp, C.spec f = some sp → SpecOK C f sp) (hC : ClOK C cl) (hM : C.P.follows .mixedOrders = true) {s s' : St S} {a : Act} {t2 : List (V S)} {v2 : Array Value} {w : World} {K : Gh}
    (x3 : RelS C K w B s a) (x4 : RepL C.E K w v2 t2) {c : Code} (h : (exC C cl c s (fun s => .ret s)).opt = some s') (hk : codeOk C c = true) (hn : ndCode c = true) (b : Frame) (d : List Deferred) (rest : List Item) (cs : List Frame) :
    ∃ K' a' w', Ext K w K' w' ∧ Below B w w' ∧ RelS C K' w' B s' a' ∧ RepL C.E K' w' v2 t2 ∧ Steps C.P (lone (b.atR (wd a d) (.code c :: rest)) cs w) (lone (b.atR (wd a' d) rest) cs w') := by
  obtain ⟨s1, a1, w1, ⟨K1, z1, z2, z3⟩, e1, st1⟩ := exC_ok (b := b) (d := d) (cs := cs) hE hT hS hC hM c (fun s => .ret s) s' rest s a w hk hn ⟨K, .refl K w, Below.refl B w, x3⟩ h
  simp only [D.opt, Option.some.injEq] at e1
  subst e1
  exact ⟨K1, a1, w1, z1, z2, z3, x4.mono z1, st1⟩
theorem ops_2 (hE : EnvOK C.E) (hT : TyOK C) (hS : ∀ f sp, C.spec f = some sp → SpecOK C f sp) (hC : ClOK C cl) {s s' : St S} {a : Act} {t2 : List (V S)} {v2 : Array Value} {w : World} {K : Gh}
    (x3 : RelS C K w B s a) (x4 : RepL C.E K w v2 t2) {ops : Array Oper} {l l2 : List Nat} (h : runL C cl ops.toList l s = some s') (hn : ndOps ops = true) (b : Frame) (d : List Deferred) (k : List Item) (cs : List Frame) :
    ∃ K' a' w', Ext K w K' w' ∧ Below B w w' ∧ RelS C K' w' B s' a' ∧ RepL C.E K' w' v2 t2 ∧ Steps C.P (lone (b.atR (wd a d) (.inRegion ops (l ++ l2) :: k)) cs w) (lone (b.atR (wd a' d) (.inRegion ops l2 :: k)) cs w') := by
  have := run_ok (Q := fun e a' w' => e = .normal ∧ At C B K w s' a' w') (C := C) (cl := cl) hE hT hS hC ops l K w s s' a x3 h (fun K' w' a' z1 z2 z3 => ⟨rfl, K', z1, z2, z3⟩)
  obtain ⟨a', w', ⟨K', z1, z2, z3⟩, st⟩ := wpOps_P (b := b) (d := d) (k := k) (cs := cs) (l2 := l2) (ndOps_ok hn) l a w this
  exact ⟨K', a', w', z1, z2, z3, x4.mono z1, st⟩
/-- What is kept of a place in a run: world and ghost go on, the loop's record stays where it was. -/
theorem exC_i (hE : EnvOK C.E) (hT : TyOK C) (hS : ∀ f sp, C.spec f = some sp → SpecOK C f sp) (hC : ClOK C cl) (hM : C.P.follows .mixedOrders = true) {s s' : St S} {a : Act} {t2 : List (V S)} {v2 : Array Value} {w : World} {K : Gh}
    (x3 : RelS C K w B s a) (x4 : RepL C.E K w v2 t2) {c : Code} (h : (exC C cl c s (fun s => .ret s)).opt = some s') (hk : codeOk C c = true) (hn : ndCode c = true) (b : Frame) (rest : List Item) (cs : List Frame) :
    ∃ K' a' w', Ext K w K' w' ∧ Below B w w' ∧ RelS C K' w' B s' a' ∧ RepL C.E K' w' v2 t2 ∧ Steps C.P (lone (b.atR a (.code c :: rest)) cs w) (lone (b.atR a' rest) cs w') := by
  obtain ⟨K', a', w', z1, z2, z3, z4, st⟩ := exC_2 hE hT hS hC hM x3 x4 h hk hn b [] rest cs
  rw [wd_nil x3.defers, wd_nil z3.defers] at st
  exact ⟨K', a', w', z1, z2, z3, z4, st⟩
theorem ops_i (hE : EnvOK C.E) (hT : TyOK C) (hS : ∀ f sp, C.spec f = some sp → SpecOK C f sp) (hC : ClOK C cl) {s s' : St S} {a : Act} {t2 : List (V S)} {v2 : Array Value} {w : World} {K : Gh}
    (x3 : RelS C K w B s a) (x4 : RepL C.E K w v2 t2) {ops : Array Oper} {l l2 : List Nat} (h : runL C cl ops.toList l s = some s') (hn : ndOps ops = true) (b : Frame) (k : List Item) (cs : List Frame) :
    ∃ K' a' w', Ext K w K' w' ∧ Below B w w' ∧ RelS C K' w' B s' a' ∧ RepL C.E K' w' v2 t2 ∧ Steps C.P (lone (b.atR a (.inRegion ops (l ++ l2) :: k)) cs w) (lone (b.atR a' (.inRegion ops l2 :: k)) cs w') := by
  obtain ⟨K', a', w', z1, z2, z3, z4, st⟩ := ops_2 hE hT hS hC x3 x4 (l2 := l2) h hn b [] k cs
  rw [wd_nil x3.defers, wd_nil z3.defers] at st
  exact ⟨K', a', w', z1, z2, z3, z4, st⟩
theorem RelS.bool {K : Gh} {w : World} {s : St S} {a : Act} (h : RelS C K w B s a) {c : Operand} {t : Bool} (hc : s.ev C c = .cell .bool t) : a.eval c = .bool t := by
  have := h.ev c
  rw [hc] at this
  exact bool_of this
/-- The code of an iterator's round: up to its call of yield, and behind it. -/
def itBody (r5 r6 r7 r9 : Code) (c33 c42 : Operand) (id8 : Nat) (ops8 : Array Oper) : Code :=
  r5.seq ((r6.seq (.cond c33 (.exit 2) .skip)).seq (r7.seq (((Code.region id8 ops8 false).seq (.cond c42 .ret .skip)).seq r9)))
section
variable (hE : EnvOK C.E) (hT : TyOK C) (hS : ∀ f sp, C.spec f = some sp → SpecOK C f sp) (hC : ClOK C cl) (hM : C.P.follows .mixedOrders = true)
  {t2 : List (V S)} {v2 : Array Value} {iL : Nat} {rec : Loop} (hrs : rec.state = .ready) (hrp : rec.pending = none) {p : Nat} (hp : rec.params = #[p]) (hv2 : rec.tmps = v2)
  (ok1 : codeOk C rec.assign = true) (ok2 : codeOk C rec.body = true) (n1 : ndCode rec.assign = true) (n2 : ndCode rec.body = true)
  {ib : Frame} (hro : ib.roundOf = none) {cs : List Frame}
include hE hT hS hC hM hrs hrp hp hv2 ok1 ok2 n1 n2 hro
theorem it_iter {r5 r6 r7 r9 : Code} {c33 c42 : Operand} {id8 : Nat} {ops8 : Array Oper} (hsz : ops8.size = 4) {o : Oper} (ho : ops8[2]? = some o) (hgd : o.guard = none) {f tx : Nat} {at' : Array TypeId} (hop : o.op = .call { callee := .value (.tmp f), args := #[.tmp tx], argTypes := at' })
    {dd : Nat} (hd : o.dst = some dd) (k5 : codeOk C r5 = true) (k6 : codeOk C r6 = true) (k7 : codeOk C r7 = true) (k9 : codeOk C r9 = true) (m5 : ndCode r5 = true) (m6 : ndCode r6 = true) (m7 : ndCode r7 = true) (m9 : ndCode r9 = true) (m8 : ndOps ops8 = true)
    {s0 s5 s6 s7 s8 s10 s11 s1 s2 : St S} {a : Act} {w : World} {K : Gh} (x3 : RelS C K w B s0 a) (x4 : RepL C.E K w v2 t2)
    (e5 : (exC C cl r5 s0 (fun s => .ret s)).opt = some s5) (e6 : (exC C cl r6 s5 (fun s => .ret s)).opt = some s6) (ec : s6.ev C c33 = .cell .bool false) (e7 : (exC C cl r7 s6 (fun s => .ret s)).opt = some s7) (e8 : runL C cl ops8.toList [0, 1] s7 = some s8)
    (hm : s8.mem[iL]? = some (.oth (.loop rec))) (hf : s8.tmps[f]? = some (.yld iL)) {vy : V S} (hx : s8.tmps[tx]? = some vy)
    (ha : (exC C cl rec.assign { tmps := t2.set p vy, mem := s8.mem } (fun s => .ret s)).opt = some s1) (h1 : s1.mem[iL]? = some (.oth (.loop rec)))
    (hb : (exC C cl rec.body { s1 with mem := s1.mem.set iL (.oth (.loop { rec with state := .busy })) } (fun s => .ret s)).opt = some s2) (h2 : s2.mem[iL]? = some (.oth (.loop { rec with state := .busy })))
    (e10 : runL C cl ops8.toList [3] { tmps := s8.tmps.set dd (.cell .bool true), mem := s2.mem.set iL (.oth (.loop rec)) } = some s10) (ec2 : s10.ev C c42 = .cell .bool false) (e11 : (exC C cl r9 s10 (fun s => .ret s)).opt = some s11) (k : List Item) :
    ∃ K' a' w', Ext K w K' w' ∧ Below B w w' ∧ RelS C K' w' B s11 a' ∧ RepL C.E K' w' v2 t2 ∧
      Steps C.P (lone (ib.atR a (.code (.block 3 (itBody r5 r6 r7 r9 c33 c42 id8 ops8)) :: .inLoop (.block 3 (itBody r5 r6 r7 r9 c33 c42 id8 ops8)) :: k)) cs w)
        (lone (ib.atR a' (.code (.block 3 (itBody r5 r6 r7 r9 c33 c42 id8 ops8)) :: .inLoop (.block 3 (itBody r5 r6 r7 r9 c33 c42 id8 ops8)) :: k)) cs w') := by
  generalize hT' : (Item.inLoop (.block 3 (itBody r5 r6 r7 r9 c33 c42 id8 ops8)) :: k) = T
  obtain ⟨K5, a5, w5, p1, p2, p3, p4, st5⟩ := exC_i hE hT hS hC hM x3 x4 e5 k5 m5 ib (.code ((r6.seq (.cond c33 (.exit 2) .skip)).seq (r7.seq (((Code.region id8 ops8 false).seq (.cond c42 .ret .skip)).seq r9))) :: .inBlock 3 :: T) cs
  obtain ⟨K6, a6, w6, q1, q2, q3, q4, st6⟩ := exC_i hE hT hS hC hM p3 p4 e6 k6 m6 ib (.code (.cond c33 (.exit 2) .skip) :: .code (r7.seq (((Code.region id8 ops8 false).seq (.cond c42 .ret .skip)).seq r9)) :: .inBlock 3 :: T) cs
  obtain ⟨K7, a7, w7, u1, u2, u3, u4, st7⟩ := exC_i hE hT hS hC hM q3 q4 e7 k7 m7 ib (.code (((Code.region id8 ops8 false).seq (.cond c42 .ret .skip)).seq r9) :: .inBlock 3 :: T) cs
  obtain ⟨K8, a8, w8, b1, b2, b3, b4, st8⟩ := ops_i hE hT hS hC u3 u4 (l2 := [2, 3]) e8 m8 ib (.code (.cond c42 .ret .skip) :: .code r9 :: .inBlock 3 :: T) cs
  obtain ⟨K9, w9, c1, c2, c3, c4, _, st9⟩ := it_yield hE hT hS hC hM b3 b4 hm hrs hrp hp hv2 (l2 := [3]) (k := .code (.cond c42 .ret .skip) :: .code r9 :: .inBlock 3 :: T) (cs := cs) (ib := ib) ho hgd hop hd hf hx hro ha h1 hb h2 ok1 ok2 n1 n2
  obtain ⟨K10, a10, w10, d1, d2, d3, d4, st10⟩ := ops_i hE hT hS hC c3 c4 (l2 := []) e10 m8 ib (.code (.cond c42 .ret .skip) :: .code r9 :: .inBlock 3 :: T) cs
  obtain ⟨K11, a11, w11, f1, f2, f3, f4, st11⟩ := exC_i hE hT hS hC hM d3 d4 e11 k9 m9 ib (.inBlock 3 :: T) cs
  refine ⟨K11, a11, w11, (((((p1.trans q1).trans u1).trans b1).trans c1).trans d1).trans f1, (((((p2.trans q2).trans u2).trans b2).trans c2).trans d2).trans f2, f3, f4, ?_⟩
  have hr : List.range ops8.size = [0, 1] ++ [2, 3] := by rw [hsz]; rfl
  refine .head stepR_block (.head stepR_seq (Steps.trans st5 (.head stepR_seq (.head stepR_seq (Steps.trans st6 (.head (stepR_cond (t := false) (q3.bool ec)) (.head stepR_skip (.head stepR_seq (Steps.trans st7 (.head stepR_seq (.head stepR_seq (.head stepR_region ?_))))))))))))
  rw [hr]
  refine Steps.trans st8 (Steps.trans st9 (Steps.trans st10 (.head stepR_region_end (.head (stepR_cond (t := false) (d3.bool ec2)) (.head stepR_skip (Steps.trans st11 (.head stepR_inBlock ?_)))))))
  rw [← hT']
  exact .one stepR_inLoop
theorem it_stop {r5 r6 r7 r9 : Code} {c33 c42 : Operand} {id8 id10 : Nat} {ops8 ops10 : Array Oper} (hsz : ops10.size = 3) {o : Oper} (ho : ops10[2]? = some o) (hgd : o.guard = none) {f tx : Nat} {at' : Array TypeId} (hop : o.op = .call { callee := .value (.tmp f), args := #[.tmp tx], argTypes := at' })
    {dd : Nat} (hd : o.dst = some dd) (k5 : codeOk C r5 = true) (k6 : codeOk C r6 = true) (m5 : ndCode r5 = true) (m6 : ndCode r6 = true) (m10 : ndOps ops10 = true)
    {s0 s5 s6 s8 s1 s2 : St S} {a : Act} {w : World} {K : Gh} (x3 : RelS C K w B s0 a) (x4 : RepL C.E K w v2 t2)
    (e5 : (exC C cl r5 s0 (fun s => .ret s)).opt = some s5) (e6 : (exC C cl r6 s5 (fun s => .ret s)).opt = some s6) (ec : s6.ev C c33 = .cell .bool true) (e8 : runL C cl ops10.toList [0, 1] s6 = some s8)
    (hm : s8.mem[iL]? = some (.oth (.loop rec))) (hf : s8.tmps[f]? = some (.yld iL)) {vy : V S} (hx : s8.tmps[tx]? = some vy)
    (ha : (exC C cl rec.assign { tmps := t2.set p vy, mem := s8.mem } (fun s => .ret s)).opt = some s1) (h1 : s1.mem[iL]? = some (.oth (.loop rec)))
    (hb : (exC C cl rec.body { s1 with mem := s1.mem.set iL (.oth (.loop { rec with state := .busy })) } (fun s => .ret s)).opt = some s2) (h2 : s2.mem[iL]? = some (.oth (.loop { rec with state := .busy }))) :
    ∃ K' a' w', Ext K w K' w' ∧ Below B w w' ∧ RelS C K' w' B { tmps := s8.tmps.set dd (.cell .bool true), mem := s2.mem.set iL (.oth (.loop rec)) } a' ∧ RepL C.E K' w' v2 t2 ∧
      Steps C.P (lone (ib.atR a (.code (.block 3 (itBody r5 r6 r7 r9 c33 c42 id8 ops8)) :: .inLoop (.block 3 (itBody r5 r6 r7 r9 c33 c42 id8 ops8)) :: [.inBlock 2, .code (.region id10 ops10 false)])) cs w)
        (lone { ib.atR a' [] with mode := .returning } cs w') := by
  generalize hT' : (Item.inLoop (.block 3 (itBody r5 r6 r7 r9 c33 c42 id8 ops8)) :: [.inBlock 2, .code (.region id10 ops10 false)]) = T
  obtain ⟨K5, a5, w5, p1, p2, p3, p4, st5⟩ := exC_i hE hT hS hC hM x3 x4 e5 k5 m5 ib (.code ((r6.seq (.cond c33 (.exit 2) .skip)).seq (r7.seq (((Code.region id8 ops8 false).seq (.cond c42 .ret .skip)).seq r9))) :: .inBlock 3 :: T) cs
  obtain ⟨K6, a6, w6, q1, q2, q3, q4, st6⟩ := exC_i hE hT hS hC hM p3 p4 e6 k6 m6 ib (.code (.cond c33 (.exit 2) .skip) :: .code (r7.seq (((Code.region id8 ops8 false).seq (.cond c42 .ret .skip)).seq r9)) :: .inBlock 3 :: T) cs
  obtain ⟨K8, a8, w8, b1, b2, b3, b4, st8⟩ := ops_i hE hT hS hC q3 q4 (l2 := [2]) e8 m10 ib [] cs
  obtain ⟨K9, w9, c1, c2, c3, c4, _, st9⟩ := it_yield hE hT hS hC hM b3 b4 hm hrs hrp hp hv2 (l2 := []) (k := []) (cs := cs) (ib := ib) ho hgd hop hd hf hx hro ha h1 hb h2 ok1 ok2 n1 n2
  refine ⟨K9, _, w9, ((p1.trans q1).trans b1).trans c1, ((p2.trans q2).trans b2).trans c2, c3, c4, ?_⟩
  have hr : List.range ops10.size = [0, 1] ++ [2] := by rw [hsz]; rfl
  have hex : exitTo 2 (.code (r7.seq (((Code.region id8 ops8 false).seq (.cond c42 .ret .skip)).seq r9)) :: .inBlock 3 :: T) = some [.code (.region id10 ops10 false)] := by rw [← hT']; simp [exitTo]
  refine .head stepR_block (.head stepR_seq (Steps.trans st5 (.head stepR_seq (.head stepR_seq (Steps.trans st6 (.head (stepR_cond (t := true) (q3.bool ec)) (.head (stepR_exit hex) (.head stepR_region ?_))))))))
  rw [hr]
  exact Steps.trans st8 (Steps.trans st9 (.head stepR_region_end (.one (stepR_end hro))))
end
end
end Go.Lv
namespace Go.Lv
set_option linter.all false
open Go Go.RowKit
variable {S : Nat → Type}
/-- The record that a loop lays. -/
def recOf (f : FuncId) (p : Nat) (asn bd : Code) (v2 : Array Value) (r : Nat) : Loop := { state := .ready, pending := none, fn := f, tmps := v2, params := #[p], assign := asn, body := bd, defers := r }
def At3 (C : Ctx S) (B : Nat) (K0 : Gh) (w0 : World) (iL l r : Nat) (s : St S) (a : Act) (t2 : List (V S)) (v2 : Array Value) (w : World) : Prop :=
  ∃ K, Ext K0 w0 K w ∧ Below B w0 w ∧ RelS C K w B s a ∧ RepL C.E K w v2 t2 ∧ K.ι (iL + 1) = l ∧ K.ι iL = r
section
variable {C : Ctx S} {cl : Cl S} {B : Nat}
/-- The end of a run that holds a loop: what was deferred, and the results. -/
def tailD {R : Type} (C : Ctx S) (cl : Cl S) (r6 r7 r8 r9 : Code) (c29 : Operand) (fin : St S → D R) (s : St S) : D R :=
  exC C cl r6 s fun s => exC C cl r7 s fun s => match s.ev C c29 with
    | .cell .bool b => .split b (exC C cl r8 s fin) (exC C cl r9 s fin)
    | _ => .fail
theorem tail_ok (hE : EnvOK C.E) (hT : TyOK C) (hS : ∀ f sp, C.spec f = some sp → SpecOK C f sp) (hC : ClOK C cl) (hM : C.P.follows .mixedOrders = true) {K0 : Gh} {w0 : World} {b : Frame} (hro : b.roundOf = none) {d : List Deferred} {cs : List Frame} {R : Type} {fin : St S → D R}
    {r6 r7 r8 r9 : Code} {c29 : Operand} (k6 : codeOk C r6 = true) (k7 : codeOk C r7 = true) (k8 : codeOk C r8 = true) (k9 : codeOk C r9 = true) (m6 : ndCode r6 = true) (m7 : ndCode r7 = true) (m8 : ndCode r8 = true) (m9 : ndCode r9 = true)
    {s : St S} {a : Act} {w : World} {r : R} (hA : At C B K0 w0 s a w) (h : (tailD C cl r6 r7 r8 r9 c29 fin s).opt = some r) :
    ∃ s' a' w' t, At C B K0 w0 s' a' w' ∧ (fin s').opt = some r ∧ Steps C.P (lone (b.atR (wd a d) [.code ((r6.seq (r7.seq (.cond c29 (r8.seq .ret) .skip))).seq (r9.seq .ret))]) cs w) (lone { b.atR (wd a' d) t with mode := .returning } cs w') := by
  obtain ⟨s1, a1, w1, hA1, h1, st1⟩ := exC_ok (b := b) (d := d) (cs := cs) hE hT hS hC hM r6 _ r [.code (r7.seq (.cond c29 (r8.seq .ret) .skip)), .code (r9.seq .ret)] s a w k6 m6 hA h
  obtain ⟨s2, a2, w2, hA2, h2, st2⟩ := exC_ok (b := b) (d := d) (cs := cs) hE hT hS hC hM r7 _ r [.code (.cond c29 (r8.seq .ret) .skip), .code (r9.seq .ret)] s1 a1 w1 k7 m7 hA1 h1
  have hA2' := hA2
  obtain ⟨K, x1, x2, x3⟩ := hA2
  split at h2
  · rename_i bb hb
    have hcv : (wd a2 d).eval c29 = .bool bb := by rw [wd_eval]; exact x3.bool hb
    rcases split_some h2 with ⟨hbb, h2⟩ | ⟨hbb, h2⟩
    · obtain ⟨s3, a3, w3, hA3, h3, st3⟩ := exC_ok (b := b) (d := d) (cs := cs) hE hT hS hC hM r8 _ r [.code .ret, .code (r9.seq .ret)] s2 a2 w2 k8 m8 hA2' h2
      exact ⟨s3, a3, w3, _, hA3, h3, .head stepR_seq (.head stepR_seq (Steps.trans st1 (.head stepR_seq (Steps.trans st2 (.head (stepR_cond (t := true) (hcv.trans (congrArg Value.bool hbb))) (.head stepR_seq (Steps.trans st3 (.one (stepR_ret hro)))))))))⟩
    · obtain ⟨s3, a3, w3, hA3, h3, st3⟩ := exC_ok (b := b) (d := d) (cs := cs) hE hT hS hC hM r9 _ r [.code .ret] s2 a2 w2 k9 m9 hA2' h2
      exact ⟨s3, a3, w3, _, hA3, h3, .head stepR_seq (.head stepR_seq (Steps.trans st1 (.head stepR_seq (Steps.trans st2 (.head (stepR_cond (t := false) (hcv.trans (congrArg Value.bool hbb))) (.head stepR_skip (.head stepR_seq (Steps.trans st3 (.one (stepR_ret hro))))))))))⟩
  · simp [D.opt] at h2
/-- A function that ranges over an iterator: entered, gone through, and left. -/
theorem range_ok (hE : EnvOK C.E) (hT : TyOK C) (hS : ∀ f sp, C.spec f = some sp → SpecOK C f sp) (hC : ClOK C cl) (hM : C.P.follows .mixedOrders = true) {K0 : Gh} {w0 : World}
    {f g : FuncId} {gn : Func} {G asn bd tail : Code} (hgn : C.P.funcs[g]? = some gn) (hgb : gn.body = some G) (hge : Enters C.P g) (hgr : gn.results = #[]) {q p : Nat} {capsV : List (V S)}
    {s : St S} {a : Act} {w : World} (hA : At C B K0 w0 s a w) (hq : s.tmps[q]? = some (.clo g [] capsV)) {b : Frame} (hbf : b.fn = f) (hro : b.roundOf = none) {cs : List Frame} {MF : Array Value → Nat → Mem S}
    (hMF : ∀ v2 r, (MF v2 r)[s.mem.length + 1]? = some (.oth (.loop (recOf f p asn bd v2 r))))
    (hloop : ∀ (l r : Nat) (v2 : Array Value) (a' : Act) (w' : World) (cs : List Frame), At3 C B K0 w0 s.mem.length l r (st0 gn (.yld (s.mem.length + 1) :: capsV) (s.mem ++ [.oth (.deferred (some []))] ++ [.oth (.loop (recOf f p asn bd v2 r))])) a' s.tmps v2 w' →
      ∃ tf a2 w2, At3 C B K0 w0 s.mem.length l r { tmps := tf, mem := MF v2 r } a2 s.tmps v2 w2 ∧ Steps C.P (lone ({ (default : Frame) with fn := g, kind := .normal }.atR a' [.code G]) cs w') (lone { ({ (default : Frame) with fn := g, kind := .normal }.atR a2 []) with mode := .returning } cs w2)) (k : List Item) :
    ∃ r w' K3, Ext K0 w0 K3 w' ∧ Below B w0 w' ∧ RelS C K3 w' B { tmps := s.tmps, mem := (MF a.tmps r).set (s.mem.length + 1) (.oth (.loop { recOf f p asn bd a.tmps r with state := .exhausted })) } a ∧ K3.ι s.mem.length = r ∧
      Steps C.P (lone (b.atR a (.code (.rangeFunc (.tmp q) #[p] asn bd) :: k)) cs w) (lone (b.atR (wd a [{ target := .collected r, args := #[] }]) k) cs w') := by
  obtain ⟨K, x1, x2, x3⟩ := hA
  have hd0 : a.defers = [] := x3.defers
  -- the function's value
  have hfv : RepV C.E K w (a.tmps.getD q Go.undef) (.clo g [] capsV) := by
    have := RepV.getD x3.size x3.tmps q
    rw [List.getD_eq_getElem?_getD, hq] at this
    exact this
  obtain ⟨caps, hev, hcs, hcr⟩ : ∃ caps : Array Value, a.eval (.tmp q) = .func (.func g) #[] caps ∧ caps.size = capsV.length ∧ ∀ (j : Nat) (c : Value) (v : V S), caps[j]? = some c → capsV[j]? = some v → RepV C.E K w c v := by
    show ∃ caps, a.tmps.getD q Go.undef = _ ∧ _
    generalize a.tmps.getD q Go.undef = u at hfv
    cases hfv with
    | clo _ first caps _ _ h1 h2 hf hc =>
      have : first = #[] := Array.eq_empty_of_size_eq_zero (by simpa using h1)
      subst this
      exact ⟨caps, rfl, h2, hc⟩
  -- the two blocks
  obtain ⟨K1, y1, y2, y3, y4, y5, y6⟩ := x3.mem.oth_new (.deferred (some [])) (fun _ _ _ e => by cases e)
  obtain ⟨K2, z1, z2, z3, z4, z5, z6⟩ := y2.oth_new (.loop (recOf f p asn bd a.tmps w.heap.size)) (fun _ _ _ e => by cases e)
  have hw2 : ((w.alloc (.deferred (some []))).alloc (.loop (recOf f p asn bd a.tmps w.heap.size))) = ((w.alloc (.deferred (some []))).alloc (.loop (recOf f p asn bd a.tmps w.heap.size))) := rfl
  generalize hW : (w.alloc (.deferred (some []))).alloc (.loop (recOf f p asn bd a.tmps w.heap.size)) = W at z1 z2 z3
  have hlen : (s.mem ++ [Ob.oth (.deferred (some []))]).length = s.mem.length + 1 := by simp
  rw [hlen] at z4 z5 z6
  have hL : K2.ι (s.mem.length + 1) = w.heap.size + 1 := by rw [z4, World.size_alloc]
  have hD : K2.ι s.mem.length = w.heap.size := by
    obtain ⟨e1, e2⟩ := z1.id s.mem.length y6
    have g2 : K2.gen s.mem.length = 0 := (z2.ob s.mem.length (.oth (.deferred (some []))) (by rw [List.getElem?_append_left (by simp), List.getElem?_append_right (Nat.le_refl _), Nat.sub_self]; rfl)).1
    rw [(e2 (g2.trans y5.symm)).1]; exact y4
  have hxx : Ext K w K2 W := y1.trans z1
  -- in
  have he : (Instr.enterLoop b.fn a.tmps #[p] asn bd b.roundOf).run C.P w = .ok (w.heap.size + 1, [{ target := .collected w.heap.size, args := #[] }]) W := by
    rw [hro, hbf, ← hW]; exact run_enterLoop_outer _ _ _ _ _
  have hres : (resolve a.eval (rangeCall (.tmp q) (w.heap.size + 1)) 0).run C.P W = .ok { target := .fn (.func g) caps, args := #[Value.func (.yield (w.heap.size + 1)) #[] #[]] } W := by
    simp only [resolve, hev, Deferred.ofValue, Sem.run_pure]
    simp [Act.eval]
  have hinv : (invoke (.fn (.func g) caps) #[Value.func (.yield (w.heap.size + 1)) #[] #[]]).run C.P W = .ok (.enter g (#[Value.func (.yield (w.heap.size + 1)) #[] #[]] ++ caps)) W := by
    simp only [invoke]
    exact hge.run _ _
  have stA := stepR_rangeFunc (P := C.P) (b := b) (a := a) (k := k) (cs := cs) (w := w) (g := .tmp q) (ps := #[p]) (assign := asn) (body := bd) he hres hinv
  -- the iterator
  have hRS : RelS C K2 W B (st0 gn (.yld (s.mem.length + 1) :: capsV) (s.mem ++ [.oth (.deferred (some []))] ++ [.oth (.loop (recOf f p asn bd a.tmps w.heap.size))])) { tmps := (#[Value.func (.yield (w.heap.size + 1)) #[] #[]] ++ caps) ++ Array.replicate (gn.ntmps - (#[Value.func (.yield (w.heap.size + 1)) #[] #[]] ++ caps).size) undef, defers := [] } := by
    refine RelS.start z2 gn (by simp [hcs]; omega) fun j v y hv hy => ?_
    cases j with
    | zero =>
      simp only [List.getElem?_cons_zero, Option.some.injEq] at hy
      subst hy
      have : v = Value.func (.yield (w.heap.size + 1)) #[] #[] := by
        rw [Array.getElem?_append_left (by simp)] at hv
        simpa using hv.symm
      subst this
      exact .yld _ _ z6 ⟨_, rfl⟩ fun _ => by rw [hL]
    | succ j =>
      simp only [List.getElem?_cons_succ] at hy
      have hv' : caps[j]? = some v := by
        rw [Array.getElem?_append_right (by simp)] at hv
        simpa using hv
      exact (hcr j v y hv' hy).mono hxx
  have hRL : RepL C.E K2 W a.tmps s.tmps := ⟨x3.size, fun j c v p q => (x3.tmps j c v p q).mono hxx⟩
  obtain ⟨tf, a2, w2, ⟨K3, p1, p2, p3, p4, p5, p6⟩, stL⟩ := hloop (w.heap.size + 1) w.heap.size a.tmps _ W (b.atR { a with defers := [{ target := .collected w.heap.size, args := #[] }] ++ a.defers } (.inRangeFunc (w.heap.size + 1) :: k) :: cs)
    ⟨K2, x1.trans hxx, x2.trans (y3.trans z3), hRS, hRL, hL, hD⟩
  -- out
  obtain ⟨_, _, g1, _, _, _⟩ := p3.mem.ob _ _ (hMF a.tmps w.heap.size)
  rw [p5] at g1
  have hend : (Instr.endLoop (w.heap.size + 1)).run C.P w2 = .ok none (w2.putObj (w.heap.size + 1) (.loop { recOf f p asn bd a.tmps w.heap.size with state := .exhausted })) :=
    run_endLoop g1 (by simp [recOf])
  obtain ⟨u1, u2, u3⟩ := p3.mem.oth_set (hMF a.tmps w.heap.size) (.loop { recOf f p asn bd a.tmps w.heap.size with state := .exhausted }) (fun _ _ _ e => by cases e)
  rw [p5] at u1 u2 u3
  refine ⟨w.heap.size, _, K3, p1.trans u1, p2.trans u3, ⟨p4.1, fun j c v hc hv => (p4.2 j c v hc hv).mono u1, hd0, u2⟩, p6, ?_⟩
  have henter : Frame.enter C.P g (#[Value.func (.yield (w.heap.size + 1)) #[] #[]] ++ caps) .normal = ({ (default : Frame) with fn := g, kind := .normal }).atR { tmps := (#[Value.func (.yield (w.heap.size + 1)) #[] #[]] ++ caps) ++ Array.replicate (gn.ntmps - (#[Value.func (.yield (w.heap.size + 1)) #[] #[]] ++ caps).size) undef, defers := [] } [.code G] := by
    simp [Frame.enter, Frame.atR, hgn, hgb]
    rfl
  rw [henter] at stA
  have hleave : Frame.leaving C.P { ({ (default : Frame) with fn := g, kind := .normal }.atR a2 []) with mode := .returning } w2 (.returned (.tuple #[])) := by
    refine ⟨rfl, p3.defers, rfl, gn, hgn, ?_⟩
    simp [results, hgr]
  have sL := step_leave_returned (P := C.P) (c := b.atR { a with defers := [{ target := .collected w.heap.size, args := #[] }] ++ a.defers } (.inRangeFunc (w.heap.size + 1) :: k)) (cs := cs) hleave
  rw [finish_atR_inRangeFunc] at sL
  have sE := stepR_endRangeFunc (P := C.P) (b := b) (a := { a with defers := [{ target := .collected w.heap.size, args := #[] }] ++ a.defers }) (k := k) (cs := cs) hend
  have hwd : ({ a with defers := [{ target := .collected w.heap.size, args := #[] }] ++ a.defers } : Act) = wd a [{ target := .collected w.heap.size, args := #[] }] := by unfold wd; rw [hd0]; rfl
  rw [hwd] at sE sL stA
  rw [hwd] at stL
  exact .head stA (Steps.trans stL (.head sL (.one sE)))
/-- The results, with the mark's block asn it was laid. -/
def finD {R : Type} (C : Ctx S) (fn : Func) (ts : List Ty) (de : List (Cell S) → Option R) (iD : Nat) (s : St S) : D R := match s.mem[iD]? with
  | some (.oth (.deferred (some []))) => finR C fn ts de { s with mem := s.mem.set iD (.oth (.deferred none)) }
  | _ => .fail
theorem rspec_ok (hE : EnvOK C.E) (hT : TyOK C) (hS : ∀ f sp, C.spec f = some sp → SpecOK C f sp) (hC : ClOK C cl) (hM : C.P.follows .mixedOrders = true) {f : FuncId} {sp : Spec S} {fn : Func} {r0 r1 r2 asn bd r6 r7 r8 r9 : Code} {c29 : Operand} {q p : Nat}
    (hfn : C.P.funcs[f]? = some fn) (hbody : fn.body = some (r0.seq (r1.seq ((r2.seq (.block 0 (.rangeFunc (.tmp q) #[p] asn bd))).seq ((r6.seq (r7.seq (.cond c29 (r8.seq .ret) .skip))).seq (r9.seq .ret)))))) (hen : Enters C.P f)
    (k0 : codeOk C r0 = true) (k1 : codeOk C r1 = true) (k2 : codeOk C r2 = true) (k6 : codeOk C r6 = true) (k7 : codeOk C r7 = true) (k8 : codeOk C r8 = true) (k9 : codeOk C r9 = true)
    (m0 : ndCode r0 = true) (m1 : ndCode r1 = true) (m2 : ndCode r2 = true) (m6 : ndCode r6 = true) (m7 : ndCode r7 = true) (m8 : ndCode r8 = true) (m9 : ndCode r9 = true)
    {g : FuncId} {gn : Func} {G : Code} (hgn : C.P.funcs[g]? = some gn) (hgb : gn.body = some G) (hge : Enters C.P g) (hgr : gn.results = #[])
    (ts : List Ty) (de : List (Cell S) → Option sp.R) (hde : ∀ cs r, de cs = some r → cs = sp.enc r)
    (hev : ∀ cs r, sp.run cs = some r → ∃ (sa sb s : St S) (capsV : List (V S)) (MF : Array Value → Nat → Mem S),
      (exC C cl r0 (st0 fn (cs.map fun c => encV C.E c.t c.x) []) (fun s => .ret s)).opt = some sa ∧ (exC C cl r1 sa (fun s => .ret s)).opt = some sb ∧ (exC C cl r2 sb (fun s => .ret s)).opt = some s ∧ s.tmps[q]? = some (.clo g [] capsV) ∧
      (∀ v2 r, (MF v2 r)[s.mem.length + 1]? = some (.oth (.loop (recOf f p asn bd v2 r)))) ∧ (∀ v2 r, (MF v2 r)[s.mem.length]? = some (.oth (.deferred (some [])))) ∧
      (∀ (B : Nat) (K0 : Gh) (w0 : World), K0.n = 0 → ∀ (l r : Nat) (v2 : Array Value) (a' : Act) (w' : World) (cs : List Frame), At3 C B K0 w0 s.mem.length l r (st0 gn (.yld (s.mem.length + 1) :: capsV) (s.mem ++ [.oth (.deferred (some []))] ++ [.oth (.loop (recOf f p asn bd v2 r))])) a' s.tmps v2 w' →
        ∃ tf a2 w2, At3 C B K0 w0 s.mem.length l r { tmps := tf, mem := MF v2 r } a2 s.tmps v2 w2 ∧ Steps C.P (lone ({ (default : Frame) with fn := g, kind := .normal }.atR a' [.code G]) cs w') (lone { ({ (default : Frame) with fn := g, kind := .normal }.atR a2 []) with mode := .returning } cs w2)) ∧
      ∀ v2 rr, (tailD C cl r6 r7 r8 r9 c29 (finD C fn ts de s.mem.length) { tmps := s.tmps, mem := (MF v2 rr).set (s.mem.length + 1) (.oth (.loop { recOf f p asn bd v2 rr with state := .exhausted })) }).opt = some r) : SpecOK C f sp := by
  refine ⟨hen, fun σ w vs cs r hg hnew hargs hrun => ?_⟩
  obtain ⟨sa, sb, s, capsV, MF, ea, eb, es, hq, hMF, hMD, hloop, htail⟩ := hev cs r hrun
  intro callers
  let K0 : Gh := { gh0 σ with σ0 := some (σ, fun _ => undef) }
  have hx0 : Ext (gh0 σ) w K0 w := ⟨Nat.zero_le _, fun i hi => absurd hi (Nat.not_lt_zero i), fun _ => Nat.le_refl _, fun _ _ _ => rfl, fun _ _ _ h => keeps.of h, .inl rfl⟩
  have hm0 : RelM C K0 w w.heap.size ([] : Mem S) := ⟨rfl, fun i o h => by simp at h, fun i j hi _ _ _ _ => absurd hi (Nat.not_lt_zero i), hnew, hg, Nat.le_refl _, (σ, fun _ => undef), rfl, fun _ _ => rfl⟩
  let b : Frame := { (default : Frame) with fn := f, kind := .normal }
  have hro : b.roundOf = none := rfl
  have hR0 : RelS C K0 w w.heap.size (st0 fn (cs.map fun c => encV C.E c.t c.x) []) { tmps := vs ++ Array.replicate (fn.ntmps - vs.size) undef, defers := [] } := by
    refine RelS.start hm0 fn (by simpa using hargs.1) fun j v y p q => ?_
    rw [List.getElem?_map] at q
    cases hcj : cs[j]? with
    | none => rw [hcj] at q; simp at q
    | some c =>
      rw [hcj] at q
      simp only [Option.map_some, Option.some.injEq] at q
      subst q
      exact (hargs.2 j v c p hcj).mono hx0
  have henter : Frame.enter C.P f vs .normal = b.atR { tmps := vs ++ Array.replicate (fn.ntmps - vs.size) undef, defers := [] } [.code (r0.seq (r1.seq ((r2.seq (.block 0 (.rangeFunc (.tmp q) #[p] asn bd))).seq ((r6.seq (r7.seq (.cond c29 (r8.seq .ret) .skip))).seq (r9.seq .ret)))))] := by
    simp [Frame.enter, Frame.atR, hfn, hbody, b]
    rfl
  have step1 : ∀ {s s' : St S} {a : Act} {w1 : World} {c : Code} (rest : List Item), At C w.heap.size K0 w s a w1 → (exC C cl c s (fun s => .ret s)).opt = some s' → codeOk C c = true → ndCode c = true →
      ∃ a' w', At C w.heap.size K0 w s' a' w' ∧ Steps C.P (lone (b.atR a (.code c :: rest)) callers w1) (lone (b.atR a' rest) callers w') := by
    intro s s' a w1 c rest hA h hk hn
    obtain ⟨s1, a1, w2, hA1, e1, st⟩ := exC_ok (b := b) (d := []) (cs := callers) hE hT hS hC hM c (fun s => .ret s) s' rest s a w1 hk hn hA h
    simp only [D.opt, Option.some.injEq] at e1
    subst e1
    obtain ⟨_, _, _, z⟩ := hA
    obtain ⟨K', y1, y2, y3⟩ := hA1
    rw [wd_nil z.defers, wd_nil y3.defers] at st
    exact ⟨a1, w2, ⟨K', y1, y2, y3⟩, st⟩
  obtain ⟨aa, wa, hAa, sta⟩ := step1 (.code (r1.seq ((r2.seq (.block 0 (.rangeFunc (.tmp q) #[p] asn bd))).seq ((r6.seq (r7.seq (.cond c29 (r8.seq .ret) .skip))).seq (r9.seq .ret)))) :: []) ⟨K0, .refl K0 w, Below.refl _ w, hR0⟩ ea k0 m0
  obtain ⟨ab, wb, hAb, stb⟩ := step1 (.code ((r2.seq (.block 0 (.rangeFunc (.tmp q) #[p] asn bd))).seq ((r6.seq (r7.seq (.cond c29 (r8.seq .ret) .skip))).seq (r9.seq .ret))) :: []) hAa eb k1 m1
  obtain ⟨ac, wc, hAc, stc⟩ := step1 (.code (.block 0 (.rangeFunc (.tmp q) #[p] asn bd)) :: .code ((r6.seq (r7.seq (.cond c29 (r8.seq .ret) .skip))).seq (r9.seq .ret)) :: []) hAb es k2 m2
  obtain ⟨rD, wd', K3, p1, p2, p3, p4, std⟩ := range_ok (tail := .skip) hE hT hS hC hM hgn hgb hge hgr hAc hq (b := b) (f := f) (p := p) (asn := asn) (bd := bd) rfl hro (cs := callers) hMF (hloop w.heap.size K0 w rfl) (.inBlock 0 :: .code ((r6.seq (r7.seq (.cond c29 (r8.seq .ret) .skip))).seq (r9.seq .ret)) :: [])
  obtain ⟨sf, af, wf, tf, ⟨K4, q1, q2, q3⟩, hfin, stf⟩ := tail_ok (d := [{ target := .collected rD, args := #[] }]) (cs := callers) (b := b) hE hT hS hC hM hro k6 k7 k8 k9 m6 m7 m8 m9 ⟨K3, .refl K3 wd', Below.refl _ wd', p3⟩ (htail ac.tmps rD)
  -- the mark
  unfold finD at hfin
  split at hfin
  · rename_i hmD
    have hD3 : ((MF ac.tmps rD).set (s.mem.length + 1) (.oth (.loop { recOf f p asn bd ac.tmps rD with state := .exhausted })))[s.mem.length]? = some (.oth (.deferred (some []))) := by
      rw [List.getElem?_set_ne (by omega)]; exact hMD _ _
    have i4 : K4.ι s.mem.length = rD := (q1.oth p3.mem q3.mem hD3 hmD).trans p4
    obtain ⟨_, _, g1, _, _, _⟩ := q3.mem.ob _ _ hmD
    rw [i4] at g1
    obtain ⟨u1, u2, u3⟩ := q3.mem.oth_set hmD (.deferred none) (fun _ _ _ e => by cases e)
    rw [i4] at u1 u2 u3
    have hq3' : RelS C K4 (wf.putObj rD (.deferred none)) w.heap.size { sf with mem := sf.mem.set s.mem.length (.oth (.deferred none)) } af := q3.ext u1 u2
    obtain ⟨cs', h1, h2⟩ := opt_bind_some hfin
    have h2' : de cs' = some r := by
      cases hd : de cs' with
      | none => rw [hd] at h2; simp [D.ofOpt, D.opt] at h2
      | some q => rw [hd] at h2; simp only [D.ofOpt, D.opt, Option.some.injEq] at h2; rw [h2]
    obtain ⟨v, K', g1', g2, ⟨m, g3⟩, g4⟩ := finT_rep hE hq3' fn h1
    rw [hde cs' r h2'] at g4
    obtain ⟨F, f1, f2⟩ := g3.old
    have hxx : Ext K0 w K' (wf.putObj rD (.deferred none)) := ((p1.trans q1).trans u1).trans g2
    have hF : F = (σ, fun _ => undef) := by
      rcases hxx.σ0 with q | q
      · cases q
      · rw [f1] at q; cases q; rfl
    subst hF
    have hbb : Below w.heap.size w (wf.putObj rD (.deferred none)) := (p2.trans q2).trans u3
    refine ⟨.returned v, _, { ({ b.atR (wd af [{ target := .collected rD, args := #[] }]) tf with mode := .returning } : Frame) with defers := [] }, ⟨v, K'.σ, rfl, hbb, f2, g3.new, g4⟩, ?_, rfl, rfl, rfl, rfl, fn, hfn, g1'⟩
    rw [henter]
    have sC := step_collected (P := C.P) (fr := { b.atR (wd af [{ target := .collected rD, args := #[] }]) tf with mode := .returning }) (cs := callers) (d := { target := .collected rD, args := #[] }) (ds := []) (r := rD) (calls := []) (by simp) (by show (wd af _).defers = _; unfold wd; rw [q3.defers]; rfl) rfl (run_takeDeferred g1)
    exact .head stepR_seq (Steps.trans sta (.head stepR_seq (Steps.trans stb (.head stepR_seq (.head stepR_seq (Steps.trans stc (.head stepR_block (Steps.trans std (.head stepR_inBlock (Steps.trans stf (.one sC)))))))))))
  · simp [D.opt] at hfin
end
end Go.Lv
namespace Go.Lv
set_option linter.all false
open Go Go.RowKit
variable {S : Nat → Type}
/-! Steps by hand between runs: each run begins anew, with the slots that are kept told as known. -/
structure Std (C : Ctx S) (σ : Nat → Nat) (w : World) : Prop where
  glob : GlobOK C σ w
  new : ∀ b, w.heap.size ≤ b → σ b = 0
theorem ext_below {σ : Nat → Nat} {w w' : World} {B : Nat} (hnew : ∀ b, B ≤ b → σ b = 0) (h : Below B w w') : Ext (gh0 σ) w (gh0 σ) w' := by
  have hb : ∀ b o, o < σ b → b < B := fun b o q => Nat.lt_of_not_le fun z => by rw [hnew b z] at q; omega
  refine ⟨Nat.le_refl _, fun _ _ => ⟨Nat.le_refl _, fun _ => ⟨rfl, rfl, rfl⟩⟩, fun _ => Nat.le_refl _, fun b o q => ?_, fun b q h0 he => ?_, .inr rfl⟩
  · exact World.cell?_of_block (a := ⟨b, o, none⟩) (h.block b (hb b o q))
  · rw [h.block b (hb b 0 h0)]; exact keeps.of he
theorem Std.below {C : Ctx S} {σ : Nat → Nat} {w w' : World} {B : Nat} (h : Std C σ w) (hnew : ∀ b, B ≤ b → σ b = 0) (hb : Below B w w') : Std C σ w' :=
  ⟨h.glob.mono (ext_below hnew hb), fun b q => h.new b (Nat.le_trans hb.size q)⟩
def frV : Nat → List (Option (V S)) → List (V S)
  | _, [] => []
  | j, some x :: r => .known j x :: frV (j + 1) r
  | j, none :: r => .undef :: frV (j + 1) r
def frS (l : List (Option (V S))) : St S := { tmps := frV 0 l, mem := [] }
theorem frV_get : ∀ (l : List (Option (V S))) (i j : Nat), (frV i l)[j]? = (l[j]?).map fun o => match o with
    | some x => .known (i + j) x
    | none => .undef
  | [], i, j => by simp [frV]
  | o :: r, i, 0 => by cases o <;> simp [frV]
  | o :: r, i, j + 1 => by
    have := frV_get r (i + 1) j
    cases o <;> simp only [frV, List.getElem?_cons_succ, this] <;> rw [show i + 1 + j = i + (j + 1) by omega]
theorem frV_len : ∀ (l : List (Option (V S))) (i : Nat), (frV i l).length = l.length
  | [], _ => rfl
  | o :: r, i => by cases o <;> simp [frV, frV_len r (i + 1)]
section
variable {C : Ctx S} {cl : Cl S}
def frK (σ : Nat → Nat) (a : Act) : Gh := { gh0 σ with σ0 := some (σ, fun j => a.tmps.getD j Go.undef) }
theorem frK_ext (σ : Nat → Nat) (a : Act) (w : World) : Ext (gh0 σ) w (frK σ a) w := ⟨Nat.zero_le _, fun i hi => absurd hi (Nat.not_lt_zero i), fun _ => Nat.le_refl _, fun _ _ _ => rfl, fun _ _ _ h => keeps.of h, .inl rfl⟩
theorem fresh_ok {σ : Nat → Nat} {w : World} {a : Act} {l : List (Option (V S))} (hs : Std C σ w) (hsz : a.tmps.size = l.length) (hd : a.defers = []) (hr : ∀ j x, l[j]? = some (some x) → RepV C.E (gh0 σ) w (a.tmps.getD j Go.undef) x) :
    RelS C (frK σ a) w w.heap.size (frS l) a := by
  refine ⟨by show _ = (frV 0 l).length; rw [frV_len]; exact hsz, fun j c v hc hv => ?_, hd, ⟨rfl, fun i o h => by simp [frS] at h, fun i j hi _ _ _ _ => absurd hi (Nat.not_lt_zero i), hs.new, hs.glob, Nat.le_refl _, (σ, fun j => a.tmps.getD j Go.undef), rfl, fun _ _ => rfl⟩⟩
  have hv' : (frV 0 l)[j]? = some v := hv
  rw [frV_get, Nat.zero_add] at hv'
  cases hl : l[j]? with
  | none => rw [hl] at hv'; cases hv'
  | some o =>
    rw [hl] at hv'
    cases o with
    | none => cases hv'; exact .undef c
    | some x =>
      cases hv'
      have e : a.tmps.getD j Go.undef = c := by rw [Array.getD_eq_getD_getElem?, hc]; rfl
      refine .known j c x ⟨_, rfl, e.symm⟩ ?_
      have := (hr j x hl).mono (frK_ext σ a w)
      rwa [e] at this
structure Kept (C : Ctx S) (σ : Nat → Nat) (s : St S) (a a' : Act) (w w' : World) : Prop where
  std : Std C σ w'
  below : Below w.heap.size w w'
  defers : a'.defers = []
  size : a'.tmps.size = s.tmps.length
  known : ∀ (j i : Nat) (x : V S), s.tmps[j]? = some (.known i x) → a'.tmps.getD j Go.undef = a.tmps.getD i Go.undef
  int : ∀ (j : Nat) (k : IntKind) (z : Int), s.tmps[j]? = some (.cell (.int k) z) → a'.tmps.getD j Go.undef = .int k z
  str : ∀ (j : Nat) (x : List UInt8), s.tmps[j]? = some (.cell .str x) → a'.tmps.getD j Go.undef = .string ⟨x.toArray⟩
  bool : ∀ (c : Operand) (b : Bool), s.ev C c = .cell .bool b → a'.eval c = .bool b
theorem kept_of {σ : Nat → Nat} {w w' : World} {a a' : Act} {s : St S} (hs : Std C σ w) (h : At C w.heap.size (frK σ a) w s a' w') : Kept C σ s a a' w w' := by
  obtain ⟨K, x1, x2, x3⟩ := h
  have get : ∀ (j : Nat) (v : V S), s.tmps[j]? = some v → RepV C.E K w' (a'.tmps.getD j Go.undef) v := fun j v hj => by
    have := RepV.getD x3.size x3.tmps j
    rw [List.getD_eq_getElem?_getD, hj] at this
    exact this
  refine ⟨hs.below hs.new x2, x2, x3.defers, x3.size, fun j i x hj => ?_, fun j k z hj => ?_, fun j x hj => ?_, fun c b hc => x3.bool hc⟩
  · have := get j _ hj
    generalize a'.tmps.getD j Go.undef = u at this
    cases this with
    | known _ _ _ hk _ =>
      obtain ⟨F, f1, f2⟩ := hk
      rcases x1.σ0 with q | q
      · cases q
      · rw [f1] at q; cases q; exact f2
  · have := get j _ hj
    generalize a'.tmps.getD j Go.undef = u at this
    cases this with | cell h => exact h.int_inv
  · have := get j _ hj
    generalize a'.tmps.getD j Go.undef = u at this
    cases this with | cell h => exact h.str_inv
variable (hE : EnvOK C.E) (hT : TyOK C) (hS : ∀ f sp, C.spec f = some sp → SpecOK C f sp) (hC : ClOK C cl) (hM : C.P.follows .mixedOrders = true)
include hE hT hS hC
include hM in
theorem fr_exC {σ : Nat → Nat} {w : World} {a : Act} {l : List (Option (V S))} (hs : Std C σ w) (hsz : a.tmps.size = l.length) (hd : a.defers = []) (hr : ∀ j x, l[j]? = some (some x) → RepV C.E (gh0 σ) w (a.tmps.getD j Go.undef) x)
    {c : Code} {s' : St S} (h : (exC C cl c (frS l) (fun s => .ret s)).opt = some s') (hk : codeOk C c = true) (hn : ndCode c = true) (b : Frame) (rest : List Item) (cs : List Frame) :
    ∃ a' w', At C w.heap.size (frK σ a) w s' a' w' ∧ Kept C σ s' a a' w w' ∧ Steps C.P (lone (b.atR a (.code c :: rest)) cs w) (lone (b.atR a' rest) cs w') := by
  have h0 := fresh_ok hs hsz hd hr
  obtain ⟨s1, a1, w1, hA1, e1, st1⟩ := exC_ok (b := b) (d := []) (cs := cs) hE hT hS hC hM c (fun s => .ret s) s' rest _ a w hk hn ⟨_, .refl _ w, Below.refl _ w, h0⟩ h
  simp only [D.opt, Option.some.injEq] at e1
  subst e1
  have kp := kept_of hs hA1
  rw [wd_nil hd, wd_nil kp.defers] at st1
  exact ⟨a1, w1, hA1, kp, st1⟩
theorem fr_ops {σ : Nat → Nat} {w : World} {a : Act} {l : List (Option (V S))} (hs : Std C σ w) (hsz : a.tmps.size = l.length) (hd : a.defers = []) (hr : ∀ j x, l[j]? = some (some x) → RepV C.E (gh0 σ) w (a.tmps.getD j Go.undef) x)
    {ops : Array Oper} {is is2 : List Nat} {s' : St S} (h : runL C cl ops.toList is (frS l) = some s') (hn : ndOps ops = true) (b : Frame) (k : List Item) (cs : List Frame) :
    ∃ a' w', At C w.heap.size (frK σ a) w s' a' w' ∧ Kept C σ s' a a' w w' ∧ Steps C.P (lone (b.atR a (.inRegion ops (is ++ is2) :: k)) cs w) (lone (b.atR a' (.inRegion ops is2 :: k)) cs w') := by
  have h0 := fresh_ok hs hsz hd hr
  have := run_ok (Q := fun e a' w' => e = .normal ∧ At C w.heap.size (frK σ a) w s' a' w') (C := C) (cl := cl) hE hT hS hC ops is _ w _ s' a h0 h (fun K' w' a' z1 z2 z3 => ⟨rfl, K', z1, z2, z3⟩)
  obtain ⟨a', w', hA, st⟩ := wpOps_P (b := b) (d := []) (k := k) (cs := cs) (l2 := is2) (ndOps_ok hn) is a w this
  have kp := kept_of hs hA
  rw [wd_nil hd, wd_nil kp.defers] at st
  exact ⟨a', w', hA, kp, st⟩
/-- .. and on. -/
theorem fr_on {σ : Nat → Nat} {w w1 : World} {a a1 : Act} {s s' : St S} (hs : Std C σ w) (hA : At C w.heap.size (frK σ a) w s a1 w1) {ops : Array Oper} {is is2 : List Nat} (h : runL C cl ops.toList is s = some s') (hn : ndOps ops = true) (b : Frame) (k : List Item) (cs : List Frame) :
    ∃ a' w', At C w.heap.size (frK σ a) w s' a' w' ∧ Kept C σ s' a a' w w' ∧ Steps C.P (lone (b.atR a1 (.inRegion ops (is ++ is2) :: k)) cs w1) (lone (b.atR a' (.inRegion ops is2 :: k)) cs w') := by
  obtain ⟨K, x1, x2, x3⟩ := hA
  obtain ⟨K', a', w', z1, z2, z3, _, st⟩ := ops_i hE hT hS hC x3 (v2 := #[]) (t2 := []) ⟨rfl, fun j c v p _ => by simp at p⟩ (l2 := is2) h hn b k cs
  have hA' : At C w.heap.size (frK σ a) w s' a' w' := ⟨K', x1.trans z1, x2.trans z2, z3⟩
  exact ⟨a', w', hA', kept_of hs hA', st⟩
omit hT hS hC in
/-- What a call gives back, told. -/
theorem fin_at {B : Nat} {K0 : Gh} {σ : Nat → Nat} {F : Nat → Value} (hσ0 : K0.σ0 = some (σ, F)) {w0 w : World} {s : St S} {a : Act} (hA : At C B K0 w0 s a w) (fn : Func) {ts : List Ty} {R : Type} {de : List (Cell S) → Option R} {enc : R → List (Cell S)} (hde : ∀ cs r, de cs = some r → cs = enc r) {r : R} (hf : (finR C fn ts de s).opt = some r) :
    ∃ v σ', (results fn a.tmps).run C.P w = .ok v w ∧ a.defers = [] ∧ Below B w0 w ∧ (∀ b, b < B → σ' b = σ b) ∧ (∀ b, w.heap.size ≤ b → σ' b = 0) ∧ RepV C.E (gh0 σ') w v (encAll C.E (enc r)) := by
  obtain ⟨K, x1, x2, x3⟩ := hA
  obtain ⟨cs', h1, h2⟩ := opt_bind_some hf
  have h2' : de cs' = some r := by
    cases hd : de cs' with
    | none => rw [hd] at h2; simp [D.ofOpt, D.opt] at h2
    | some q => rw [hd] at h2; simp only [D.ofOpt, D.opt, Option.some.injEq] at h2; rw [h2]
  obtain ⟨v, K', g1, g2, ⟨m, g3⟩, g4⟩ := finT_rep hE x3 fn h1
  rw [hde cs' r h2'] at g4
  obtain ⟨F', f1, f2⟩ := g3.old
  have hxx := x1.trans g2
  have hF : F' = (σ, F) := by
    rcases hxx.σ0 with q | q
    · rw [hσ0] at q; cases q
    · rw [f1, hσ0] at q; cases q; rfl
  subst hF
  exact ⟨v, K'.σ, g1, x3.defers, x2, f2, g3.new, g4⟩
end
/-- An operation by hand, of a value. -/
theorem hand_val {P : Program} {ops : Array Oper} {i : Nat} {rest : List Nat} {k : List Item} {cs : List Frame} {b : Frame} {a : Act} {w w' : World} {o : Oper} {v : Value} (hnd : ndOps ops = true) (hd : a.defers = []) (ho : ops[i]? = some o) (hg : o.guard = none)
    (h : (execOp a.eval o).run P w = .ok (.value v) w') : Steps P (lone (b.atR a (.inRegion ops (i :: rest) :: k)) cs w) (lone (b.atR (a.put o.dst v) (.inRegion ops rest :: k)) cs w') := by
  have hw : Region.wanted o (yielded ops a.tmps) = true := by simp [Region.wanted, hg]
  obtain ⟨a', w2, ⟨e1, e2⟩, st⟩ := wpOps_P (P := P) (Q := fun a' w2 => a' = a.put o.dst v ∧ w2 = w') (b := b) (d := []) (k := k) (cs := cs) (l2 := rest) (ndOps_ok hnd) [i] a w (by
    unfold wpOps
    rw [ho]
    simp only [hw, if_true]
    left
    unfold Oper.wp
    rw [h]
    exact ⟨rfl, rfl, rfl⟩)
  subst e1 e2
  have hd' : (a.put o.dst v).defers = [] := by cases o.dst <;> exact hd
  rw [wd_nil hd, wd_nil hd'] at st
  exact st
/-- A call by hand. -/
theorem hand_call {P : Program} {ops : Array Oper} {i : Nat} {rest : List Nat} {k : List Item} {cs : List Frame} {b : Frame} {a : Act} {w : World} {o : Oper} {g : FuncId} {args : Array Operand} {at' : Array TypeId} {vs : Array Value} {R : Value → World → Prop} (hnd : ndOps ops = true) (hd : a.defers = []) (ho : ops[i]? = some o) (hg : o.guard = none)
    (hop : o.op = .call { callee := .value (.func g), args := args, argTypes := at' }) (hvs : args.map a.eval = vs) (hen : Enters P g) (h : Calls P g vs w fun e w' => ∃ v, e = .returned v ∧ R v w') :
    ∃ v w', R v w' ∧ Steps P (lone (b.atR a (.inRegion ops (i :: rest) :: k)) cs w) (lone (b.atR (a.put o.dst v) (.inRegion ops rest :: k)) cs w') := by
  have hw : Region.wanted o (yielded ops a.tmps) = true := by simp [Region.wanted, hg]
  have hr : (execOp a.eval o).run P w = .ok (.enter g vs) w := by
    have : a.eval (.func g) = .func (.func g) #[] #[] := rfl
    simp only [execOp, hop, resolve, this, Deferred.ofValue, Sem.run_bind, Sem.run_pure, Result.andThen_ok, invoke]
    have e : (#[] ++ args.map a.eval ++ #[] : Array Value) = vs := by rw [← hvs]; simp
    simpa [e, hvs] using hen.run vs w
  obtain ⟨a', w2, ⟨v, e1, e2⟩, st⟩ := wpOps_P (P := P) (Q := fun a' w2 => ∃ v, a' = a.put o.dst v ∧ R v w2) (b := b) (d := []) (k := k) (cs := cs) (l2 := rest) (ndOps_ok hnd) [i] a w (by
    unfold wpOps
    rw [ho]
    simp only [hw, if_true]
    left
    unfold Oper.wp
    rw [hr, Oper.upon_enter]
    refine h.mono ?_
    rintro e w' ⟨v, rfl, hR⟩
    exact ⟨rfl, v, rfl, hR⟩)
  subst e1
  have hd' : (a.put o.dst v).defers = [] := by cases o.dst <;> exact hd
  rw [wd_nil hd, wd_nil hd'] at st
  exact ⟨v, w2, e2, st⟩
end Go.Lv
namespace Go.Lv
set_option linter.all false
open Go Go.RowKit Go.Proofs
variable {S : Nat → Type}
/-! A function that writes a Builder item by item. -/
theorem builder_below {T e : TypeId} {b B : Nat} {bs : List Value} {w w' : World} (h : Lib.IsBuilder T e b b bs w) (hb : Below w.heap.size w w') : Lib.IsBuilder T e b b bs w' := by
  have go : ∀ p, Lib.BuilderAt T e b b p bs w → Lib.BuilderAt T e b b p bs w' := by
    rintro p ⟨h1, v, h2, ⟨h3, h4⟩, h5⟩
    have lt : ∀ (g : Nat) (o : Obj), w.heap[g]? = some o → g < w.heap.size := fun g o q => (Array.getElem?_eq_some_iff.1 q).1
    refine ⟨h1, v, (hb.block b (lt b _ h2)).trans h2, ⟨h3, ?_⟩, h5⟩
    rcases h4 with h4 | ⟨g, cap, cur, k1, k2, k3, k4⟩
    · exact .inl h4
    · exact .inr ⟨g, cap, cur, k1, k2, (hb.block g (lt g _ k3)).trans k3, k4⟩
  exact h.imp (go _) (go _)
def pL (lv : V S) (N i : Int) : List (Option (V S)) := [none, none, none, none, some .undef, none, none, none, none, none, some lv, some (.cell (.int .i64) N), some (.cell (.int .i64) i), none, none, none, none, none, none, none, none]
def pL4 (lv : V S) : List (Option (V S)) := [none, none, none, none, some .undef, none, none, none, none, none, some lv, none, none, none, none, none, none, none, none, none, none]
def pL9 (x : List UInt8) : List (Option (V S)) := [none, none, none, none, none, none, none, none, none, none, none, none, none, none, none, none, none, none, none, none, some (.cell .str x)]
def putLB (r5 r6 r8 : Code) (ops7 : Array Oper) : Code := r5.seq ((Code.cond (.tmp 13) .skip (.exit 0)).seq ((Code.block 1 (r6.seq (.region 7 ops7 false))).seq r8))
structure PInv (C : Ctx S) (σ : Nat → Nat) (lv : V S) (T e : TypeId) (N : Int) (w1 : World) (b : Nat) (i : Int) (bs : List UInt8) (a : Act) (w : World) : Prop where
  std : Std C σ w
  below : Below b w1 w
  bw : b < w.heap.size
  defers : a.defers = []
  size : a.tmps.size = 21
  p : a.tmps.getD 4 Go.undef = .pointer (some ⟨b, 0, none⟩)
  l : RepV C.E (gh0 σ) w (a.tmps.getD 10 Go.undef) lv
  n : a.tmps.getD 11 Go.undef = .int .i64 N
  i : a.tmps.getD 12 Go.undef = .int .i64 i
  bld : Lib.IsBuilder T e b b (Lib.byteCells bs) w
theorem PInv.reps {C : Ctx S} {σ : Nat → Nat} {lv : V S} {T e : TypeId} {N : Int} {w1 : World} {b : Nat} {i : Int} {bs : List UInt8} {a : Act} {w : World} (h : PInv C σ lv T e N w1 b i bs a w) :
    ∀ j x, (pL lv N i)[j]? = some (some x) → RepV C.E (gh0 σ) w (a.tmps.getD j Go.undef) x := by
  intro j x hj
  match j, hj with
  | 0, hj | 1, hj | 2, hj | 3, hj | 5, hj | 6, hj | 7, hj | 8, hj | 9, hj | 13, hj | 14, hj | 15, hj | 16, hj | 17, hj | 18, hj | 19, hj | 20, hj => cases hj
  | 4, hj => cases hj; exact .undef _
  | 10, hj => cases hj; exact h.l
  | 11, hj => cases hj; rw [h.n]; exact .cell (.int _ _)
  | 12, hj => cases hj; rw [h.i]; exact .cell (.int _ _)
  | n + 21, hj => simp [pL] at hj
theorem put_getD {a : Act} {d : Nat} {v : Value} {j : Nat} (h : d ≠ j) : (a.put (some d) v).tmps.getD j Go.undef = a.tmps.getD j Go.undef := by
  show (a.tmps.setIfInBounds d v).getD j Go.undef = _
  rw [Array.getD_eq_getD_getElem?, Array.getD_eq_getD_getElem?, Array.getElem?_setIfInBounds_ne h]
theorem put_getD_self {a : Act} {d : Nat} {v : Value} (h : d < a.tmps.size) : (a.put (some d) v).tmps.getD d Go.undef = v := by
  show (a.tmps.setIfInBounds d v).getD d Go.undef = _
  rw [Array.getD_eq_getD_getElem?, Array.getElem?_setIfInBounds_self_of_lt h]; rfl
theorem put_size {a : Act} {d : Nat} {v : Value} : (a.put (some d) v).tmps.size = a.tmps.size := by
  show (a.tmps.setIfInBounds d v).size = _
  simp
section
variable {C : Ctx S} {cl : Cl S}
/-- What one item does. -/
structure PItem (C : Ctx S) (cl : Cl S) (lv : V S) (N i : Int) (r5 r6 r8 : Code) (ops7 : Array Oper) (x : List UInt8) : Prop where
  ev : ∃ (s5 s6 s7 s8 : St S), (exC C cl r5 (frS (pL lv N i)) (fun s => .ret s)).opt = some s5 ∧ s5.ev C (.tmp 13) = .cell .bool true ∧ s5.tmps.length = 21 ∧
    s5.tmps[4]? = some (.known 4 .undef) ∧ s5.tmps[10]? = some (.known 10 lv) ∧ s5.tmps[11]? = some (.known 11 (.cell (.int .i64) N)) ∧ s5.tmps[12]? = some (.known 12 (.cell (.int .i64) i)) ∧
    (exC C cl r6 (frS (pL lv N i)) (fun s => .ret s)).opt = some s6 ∧ runL C cl ops7.toList [0, 1] s6 = some s7 ∧ s7.tmps.length = 21 ∧ s7.tmps[17]? = some (.cell .str x) ∧
    s7.tmps[4]? = some (.known 4 .undef) ∧ s7.tmps[10]? = some (.known 10 lv) ∧ s7.tmps[11]? = some (.known 11 (.cell (.int .i64) N)) ∧ s7.tmps[12]? = some (.known 12 (.cell (.int .i64) i)) ∧
    (exC C cl r8 (frS (pL lv N i)) (fun s => .ret s)).opt = some s8 ∧ s8.tmps.length = 21 ∧
    s8.tmps[4]? = some (.known 4 .undef) ∧ s8.tmps[10]? = some (.known 10 lv) ∧ s8.tmps[11]? = some (.known 11 (.cell (.int .i64) N)) ∧ s8.tmps[12]? = some (.cell (.int .i64) (i + 1))
structure PEnd (C : Ctx S) (cl : Cl S) (lv : V S) (N : Int) (r5 : Code) : Prop where
  ev : ∃ (s5 : St S), (exC C cl r5 (frS (pL lv N N)) (fun s => .ret s)).opt = some s5 ∧ s5.ev C (.tmp 13) = .cell .bool false ∧ s5.tmps.length = 21 ∧
    s5.tmps[4]? = some (.known 4 .undef) ∧ s5.tmps[10]? = some (.known 10 lv) ∧ s5.tmps[11]? = some (.known 11 (.cell (.int .i64) N)) ∧ s5.tmps[12]? = some (.known 12 (.cell (.int .i64) N))
theorem PInv.kept {σ : Nat → Nat} {lv : V S} {T e : TypeId} {N : Int} {w1 : World} {b : Nat} {i j : Int} {bs : List UInt8} {a a' : Act} {w w' : World} {s : St S} (h : PInv C σ lv T e N w1 b i bs a w) (k : Kept C σ s a a' w w') (hl : s.tmps.length = 21)
    (h4 : s.tmps[4]? = some (.known 4 .undef)) (h10 : s.tmps[10]? = some (.known 10 lv)) (h11 : s.tmps[11]? = some (.known 11 (.cell (.int .i64) N))) (h12 : a'.tmps.getD 12 Go.undef = .int .i64 j) : PInv C σ lv T e N w1 b j bs a' w' := by
  have e10 := k.known 10 10 _ h10
  refine ⟨k.std, h.below.trans (k.below.mono (Nat.le_of_lt h.bw)), Nat.lt_of_lt_of_le h.bw k.below.size, k.defers, k.size.trans hl, (k.known 4 4 _ h4).trans h.p, ?_, (k.known 11 11 _ h11).trans h.n, h12, builder_below (B := 0) h.bld k.below⟩
  rw [e10]
  exact h.l.mono (ext_below h.std.new k.below)
variable (hE : EnvOK C.E) (hT : TyOK C) (hS : ∀ f sp, C.spec f = some sp → SpecOK C f sp) (hC : ClOK C cl) (hM : C.P.follows .mixedOrders = true)
  {σ : Nat → Nat} {lv : V S} {T e : TypeId} {N : Int} {w1 : World} {b : Nat} (hσ : ∀ c, b ≤ c → σ c = 0)
  {r5 r6 r8 : Code} {ops7 : Array Oper} (k5 : codeOk C r5 = true) (k6 : codeOk C r6 = true) (k8 : codeOk C r8 = true) (m5 : ndCode r5 = true) (m6 : ndCode r6 = true) (m8 : ndCode r8 = true) (m7 : ndOps ops7 = true) (hsz7 : ops7.size = 3)
  {gW : FuncId} {o7 : Oper} (ho7 : ops7[2]? = some o7) (hg7 : o7.guard = none) (hd7 : o7.dst = some 18) {at7 : Array TypeId} (hop7 : o7.op = .call { callee := .value (.func gW), args := #[.tmp 4, .tmp 17], argTypes := at7 }) (henW : Enters C.P gW)
  (hWr : ∀ (bs : List UInt8) (x : List UInt8) (w : World), Lib.IsBuilder T e b b (Lib.byteCells bs) w → bs.length + x.length ≤ 140737488355328 → b ≤ w.heap.size → Calls C.P gW #[.pointer (some ⟨b, 0, none⟩), .string ⟨x.toArray⟩] w fun e' w' => ∃ v, e' = .returned v ∧ Lib.IsBuilder T e b b (Lib.byteCells (bs ++ x)) w' ∧ Below b w w')
include hE hT hS hC hM hσ k5 k6 k8 m5 m6 m8 m7 hsz7 ho7 hg7 hd7 hop7 henW hWr
theorem put_round {i : Int} {bs x : List UInt8} (hI : PItem C cl lv N i r5 r6 r8 ops7 x) (hlen : bs.length + x.length ≤ 140737488355328) {a : Act} {w : World} (h : PInv C σ lv T e N w1 b i bs a w) (fr : Frame) (K : List Item) (cs : List Frame) :
    ∃ a' w', PInv C σ lv T e N w1 b (i + 1) (bs ++ x) a' w' ∧ Steps C.P (lone (fr.atR a (.code (putLB r5 r6 r8 ops7) :: .inLoop (putLB r5 r6 r8 ops7) :: K)) cs w) (lone (fr.atR a' (.code (putLB r5 r6 r8 ops7) :: .inLoop (putLB r5 r6 r8 ops7) :: K)) cs w') := by
  obtain ⟨s5, s6, s7, s8, e5, c5, l5, p5, q5, u5, v5, e6, e7, l7, x7, p7, q7, u7, v7, e8, l8, p8, q8, u8, v8⟩ := hI.ev
  generalize hT' : (Item.inLoop (putLB r5 r6 r8 ops7) :: K) = Tl
  obtain ⟨a5, w5, _, kp5, st5⟩ := fr_exC hE hT hS hC hM h.std (h.size.trans rfl) h.defers h.reps e5 k5 m5 fr (.code ((Code.cond (.tmp 13) .skip (.exit 0)).seq ((Code.block 1 (r6.seq (.region 7 ops7 false))).seq r8)) :: Tl) cs
  have h5 := h.kept kp5 l5 p5 q5 u5 ((kp5.known 12 12 _ v5).trans h.i)
  obtain ⟨a6, w6, hA6, _, st6⟩ := fr_exC hE hT hS hC hM h5.std (h5.size.trans rfl) h5.defers h5.reps e6 k6 m6 fr (.code (.region 7 ops7 false) :: .inBlock 1 :: .code r8 :: Tl) cs
  obtain ⟨a7, w7, _, kp7, st7⟩ := fr_on hE hT hS hC h5.std hA6 (is2 := [2]) e7 m7 fr (.inBlock 1 :: .code r8 :: Tl) cs
  have h7 := h5.kept kp7 l7 p7 q7 u7 ((kp7.known 12 12 _ v7).trans h5.i)
  obtain ⟨v, w8, ⟨b8, bl8⟩, st8⟩ := hand_call (rest := []) (k := .inBlock 1 :: .code r8 :: Tl) (cs := cs) (b := fr) m7 h7.defers ho7 hg7 hop7 (vs := #[.pointer (some ⟨b, 0, none⟩), .string ⟨x.toArray⟩]) (by
    have e1 : a7.eval (.tmp 4) = .pointer (some ⟨b, 0, none⟩) := h7.p
    have e2 : a7.eval (.tmp 17) = .string ⟨x.toArray⟩ := kp7.str 17 x x7
    simp [e1, e2]) henW (hWr bs x w7 h7.bld hlen (Nat.le_of_lt h7.bw))
  rw [hd7] at st8
  have h8 : PInv C σ lv T e N w1 b i (bs ++ x) (a7.put (some 18) v) w8 := by
    refine ⟨h7.std.below hσ bl8, h7.below.trans bl8, Nat.lt_of_lt_of_le h7.bw bl8.size, h7.defers, put_size.trans h7.size, ?_, ?_, ?_, ?_, b8⟩
    · rw [put_getD (by decide)]; exact h7.p
    · rw [put_getD (by decide)]; exact h7.l.mono (ext_below hσ bl8)
    · rw [put_getD (by decide)]; exact h7.n
    · rw [put_getD (by decide)]; exact h7.i
  obtain ⟨a9, w9, _, kp9, st9⟩ := fr_exC hE hT hS hC hM h8.std (h8.size.trans rfl) h8.defers h8.reps e8 k8 m8 fr Tl cs
  have h9 := h8.kept kp9 l8 p8 q8 u8 (kp9.int 12 _ _ v8)
  have hr : List.range ops7.size = [0, 1] ++ [2] := by rw [hsz7]; rfl
  have c5' : a5.eval (.tmp 13) = .bool true := kp5.bool _ _ c5
  refine ⟨a9, w9, h9, .head stepR_seq (Steps.trans st5 (.head stepR_seq (.head (stepR_cond (t := true) c5') (.head stepR_skip (.head stepR_seq (.head stepR_block (.head stepR_seq (Steps.trans st6 (.head stepR_region ?_)))))))))⟩
  rw [hr]
  refine Steps.trans st7 (Steps.trans st8 (.head stepR_region_end (.head stepR_inBlock (Steps.trans st9 ?_))))
  rw [← hT']
  exact .one stepR_inLoop
theorem put_loop (hend : PEnd C cl lv N r5) : ∀ (xs : List (List UInt8)) (i : Int) (bs : List UInt8) (a : Act) (w : World), i + xs.length = N → (∀ (j : Nat) (x : List UInt8), xs[j]? = some x → PItem C cl lv N (i + j) r5 r6 r8 ops7 x) → bs.length + xs.flatten.length ≤ 140737488355328 →
    PInv C σ lv T e N w1 b i bs a w → ∀ (fr : Frame) (K : List Item) (cs : List Frame), ∃ a' w', PInv C σ lv T e N w1 b N (bs ++ xs.flatten) a' w' ∧
      Steps C.P (lone (fr.atR a (.code (putLB r5 r6 r8 ops7) :: .inLoop (putLB r5 r6 r8 ops7) :: .inBlock 0 :: K)) cs w) (lone (fr.atR a' K) cs w')
  | [], i, bs, a, w, hi, _, _, h, fr, K, cs => by
    obtain ⟨s5, e5, c5, l5, p5, q5, u5, v5⟩ := hend.ev
    have hiN : i = N := by simpa using hi
    subst hiN
    generalize hT' : (Item.inLoop (putLB r5 r6 r8 ops7) :: .inBlock 0 :: K) = Tl
    obtain ⟨a5, w5, _, kp5, st5⟩ := fr_exC hE hT hS hC hM h.std (h.size.trans rfl) h.defers h.reps e5 k5 m5 fr (.code ((Code.cond (.tmp 13) .skip (.exit 0)).seq ((Code.block 1 (r6.seq (.region 7 ops7 false))).seq r8)) :: Tl) cs
    have h5 := h.kept kp5 l5 p5 q5 u5 ((kp5.known 12 12 _ v5).trans h.i)
    have c5' : a5.eval (.tmp 13) = .bool false := kp5.bool _ _ c5
    have hex : exitTo 0 (.code ((Code.block 1 (r6.seq (.region 7 ops7 false))).seq r8) :: Tl) = some K := by rw [← hT']; simp [exitTo]
    refine ⟨a5, w5, by simpa using h5, .head stepR_seq (Steps.trans st5 (.head stepR_seq (.head (stepR_cond (t := false) c5') (.one (stepR_exit hex)))))⟩
  | x :: xs, i, bs, a, w, hi, hx, hlen, h, fr, K, cs => by
    have hl : bs.length + x.length + xs.flatten.length ≤ 140737488355328 := by simpa [Nat.add_assoc] using hlen
    obtain ⟨a1, w2, h1, st1⟩ := put_round hE hT hS hC hM hσ k5 k6 k8 m5 m6 m8 m7 hsz7 ho7 hg7 hd7 hop7 henW hWr (by simpa using hx 0 x rfl) (by omega) h fr (.inBlock 0 :: K) cs
    obtain ⟨a2, w3, h2, st2⟩ := put_loop hend xs (i + 1) (bs ++ x) a1 w2 (by simp at hi; omega) (fun j y hj => by have := hx (j + 1) y hj; rwa [show i + ((j + 1 : Nat) : Int) = i + 1 + (j : Int) by omega] at this) (by rw [List.length_append]; exact hl) h1 fr K cs
    exact ⟨a2, w3, by simpa [List.append_assoc] using h2, Steps.trans st1 st2⟩
end
section
variable {C : Ctx S} {cl : Cl S}
theorem put_ok (hE : EnvOK C.E) (hT : TyOK C) (hS : ∀ f sp, C.spec f = some sp → SpecOK C f sp) (hC : ClOK C cl) (hM : C.P.follows .mixedOrders = true) {T e : TypeId}
    {f : FuncId} {sp : Spec S} {fn : Func} {r0 r1 r2 r5 r6 r8 : Code} {ops3 ops4 ops7 ops9 : Array Oper}
    (hfn : C.P.funcs[f]? = some fn) (hbody : fn.body = some (r0.seq ((r1.seq (.cond (.tmp 9) (r2.seq .ret) .skip)).seq ((Code.region 3 ops3 false).seq (((Code.region 4 ops4 false).seq (.block 0 (.loop (putLB r5 r6 r8 ops7)))).seq ((Code.region 9 ops9 false).seq .ret)))))) (hen : Enters C.P f)
    (k0 : codeOk C r0 = true) (k1 : codeOk C r1 = true) (k2 : codeOk C r2 = true) (m0 : ndCode r0 = true) (m1 : ndCode r1 = true) (m2 : ndCode r2 = true)
    (k5 : codeOk C r5 = true) (k6 : codeOk C r6 = true) (k8 : codeOk C r8 = true) (m5 : ndCode r5 = true) (m6 : ndCode r6 = true) (m8 : ndCode r8 = true) (m7 : ndOps ops7 = true) (hsz7 : ops7.size = 3)
    {gW : FuncId} {o7 : Oper} (ho7 : ops7[2]? = some o7) (hg7 : o7.guard = none) (hd7 : o7.dst = some 18) {at7 : Array TypeId} (hop7 : o7.op = .call { callee := .value (.func gW), args := #[.tmp 4, .tmp 17], argTypes := at7 }) (henW : Enters C.P gW)
    (hWr : ∀ (b : Nat) (bs : List UInt8) (x : List UInt8) (w : World), Lib.IsBuilder T e b b (Lib.byteCells bs) w → bs.length + x.length ≤ 140737488355328 → b ≤ w.heap.size → Calls C.P gW #[.pointer (some ⟨b, 0, none⟩), .string ⟨x.toArray⟩] w fun e' w' => ∃ v, e' = .returned v ∧ Lib.IsBuilder T e b b (Lib.byteCells (bs ++ x)) w' ∧ Below b w w')
    {o3 o4 : Oper} (m3 : ndOps ops3 = true) (hsz3 : ops3.size = 1) (ho3 : ops3[0]? = some o3) (hg3 : o3.guard = none) (hd3 : o3.dst = some 4) (hr3 : ∀ (a : Act) (w : World), (execOp a.eval o3).run C.P w = .ok (.value (.pointer (some ⟨w.heap.size, 0, none⟩))) (w.alloc (.cells #[.pointer none, .slice none 0 0] T)))
    (m4 : ndOps ops4 = true) (hsz4 : ops4.size = 3) (ho4 : ops4[0]? = some o4) (hg4 : o4.guard = none) (hd4 : o4.dst = some 10) (hr4 : ∀ (a : Act) (w : World), (execOp a.eval o4).run C.P w = .ok (.value (a.eval (.tmp 0))) w)
    {gS : FuncId} {o9 : Oper} (m9 : ndOps ops9 = true) (hsz9 : ops9.size = 3) (ho9 : ops9[0]? = some o9) (hg9 : o9.guard = none) (hd9 : o9.dst = some 20) {at9 : Array TypeId} (hop9 : o9.op = .call { callee := .value (.func gS), args := #[.tmp 4], argTypes := at9 }) (henS : Enters C.P gS)
    (hSt : ∀ (b : Nat) (bs : List UInt8) (w : World), Lib.IsBuilder T e b b (Lib.byteCells bs) w → b ≤ w.heap.size → Calls C.P gS #[.pointer (some ⟨b, 0, none⟩)] w fun e' w' => ∃ v, e' = .returned v ∧ v = .string ⟨bs.toArray⟩ ∧ Below b w w')
    (ts : List Ty) (de : List (Cell S) → Option sp.R) (hde : ∀ cs r, de cs = some r → cs = sp.enc r)
    (hev : ∀ cs r, sp.run cs = some r → ∃ (lv : V S) (sa sb : St S) (bb : Bool), (exC C cl r0 (st0 fn (cs.map fun c => encV C.E c.t c.x) []) (fun s => .ret s)).opt = some sa ∧ (exC C cl r1 sa (fun s => .ret s)).opt = some sb ∧ sb.ev C (.tmp 9) = .cell .bool bb ∧
      (bb = true → ∃ sc, (exC C cl r2 sb (fun s => .ret s)).opt = some sc ∧ (finR C fn ts de sc).opt = some r) ∧
      (bb = false → sb.tmps.length = 21 ∧ sb.tmps[0]? = some lv ∧ (∃ (t : Ty) (x : den S t), lv = encV C.E t x) ∧ ∃ (xs : List (List UInt8)) (s4 s9 : St S),
        runL C cl ops4.toList [1, 2] (frS (pL4 lv)) = some s4 ∧ s4.tmps.length = 21 ∧ s4.tmps[4]? = some (.known 4 .undef) ∧ s4.tmps[10]? = some (.known 10 lv) ∧ s4.tmps[11]? = some (.cell (.int .i64) (xs.length : Int)) ∧ s4.tmps[12]? = some (.cell (.int .i64) (0 : Int)) ∧
        (∀ (j : Nat) (x : List UInt8), xs[j]? = some x → PItem C cl lv (xs.length : Int) (j : Int) r5 r6 r8 ops7 x) ∧ PEnd C cl lv (xs.length : Int) r5 ∧ xs.flatten.length ≤ 140737488355328 ∧
        runL C cl ops9.toList [1, 2] (frS (pL9 xs.flatten)) = some s9 ∧ (finR C fn ts de s9).opt = some r)) : SpecOK C f sp := by
  refine ⟨hen, fun σ w vs cs r hg hnew hargs hrun => ?_⟩
  obtain ⟨lv, sa, sb, bb, ea, eb, ec, hy, hn⟩ := hev cs r hrun
  intro callers
  let K0 : Gh := { gh0 σ with σ0 := some (σ, fun _ => undef) }
  have hx0 : Ext (gh0 σ) w K0 w := ⟨Nat.zero_le _, fun i hi => absurd hi (Nat.not_lt_zero i), fun _ => Nat.le_refl _, fun _ _ _ => rfl, fun _ _ _ h => keeps.of h, .inl rfl⟩
  have hm0 : RelM C K0 w w.heap.size ([] : Mem S) := ⟨rfl, fun i o h => by simp at h, fun i j hi _ _ _ _ => absurd hi (Nat.not_lt_zero i), hnew, hg, Nat.le_refl _, (σ, fun _ => undef), rfl, fun _ _ => rfl⟩
  let b : Frame := { (default : Frame) with fn := f, kind := .normal }
  have hro : b.roundOf = none := rfl
  have hR0 : RelS C K0 w w.heap.size (st0 fn (cs.map fun c => encV C.E c.t c.x) []) { tmps := vs ++ Array.replicate (fn.ntmps - vs.size) undef, defers := [] } := by
    refine RelS.start hm0 fn (by simpa using hargs.1) fun j v y p q => ?_
    rw [List.getElem?_map] at q
    cases hcj : cs[j]? with
    | none => rw [hcj] at q; simp at q
    | some c =>
      rw [hcj] at q
      simp only [Option.map_some, Option.some.injEq] at q
      subst q
      exact (hargs.2 j v c p hcj).mono hx0
  have henter : Frame.enter C.P f vs .normal = b.atR { tmps := vs ++ Array.replicate (fn.ntmps - vs.size) undef, defers := [] } [.code (r0.seq ((r1.seq (.cond (.tmp 9) (r2.seq .ret) .skip)).seq ((Code.region 3 ops3 false).seq (((Code.region 4 ops4 false).seq (.block 0 (.loop (putLB r5 r6 r8 ops7)))).seq ((Code.region 9 ops9 false).seq .ret)))))] := by
    simp [Frame.enter, Frame.atR, hfn, hbody, b]
    rfl
  have step1 : ∀ {s s' : St S} {a : Act} {w1 : World} {c : Code} (rest : List Item), At C w.heap.size K0 w s a w1 → (exC C cl c s (fun s => .ret s)).opt = some s' → codeOk C c = true → ndCode c = true →
      ∃ a' w', At C w.heap.size K0 w s' a' w' ∧ Steps C.P (lone (b.atR a (.code c :: rest)) callers w1) (lone (b.atR a' rest) callers w') := by
    intro s s' a w1 c rest hA h hk hn
    obtain ⟨s1, a1, w2, hA1, e1, st⟩ := exC_ok (b := b) (d := []) (cs := callers) hE hT hS hC hM c (fun s => .ret s) s' rest s a w1 hk hn hA h
    simp only [D.opt, Option.some.injEq] at e1
    subst e1
    obtain ⟨_, _, _, z⟩ := hA
    obtain ⟨K', y1, y2, y3⟩ := hA1
    rw [wd_nil z.defers, wd_nil y3.defers] at st
    exact ⟨a1, w2, ⟨K', y1, y2, y3⟩, st⟩
  rw [henter]
  generalize hR1 : ((Code.region 3 ops3 false).seq (((Code.region 4 ops4 false).seq (.block 0 (.loop (putLB r5 r6 r8 ops7)))).seq ((Code.region 9 ops9 false).seq .ret))) = tl1
  obtain ⟨aa, wa, hAa, sta⟩ := step1 [.code ((r1.seq (.cond (.tmp 9) (r2.seq .ret) .skip)).seq tl1)] ⟨K0, .refl K0 w, Below.refl _ w, hR0⟩ ea k0 m0
  obtain ⟨ab, wb, hAb, stb⟩ := step1 [.code (.cond (.tmp 9) (r2.seq .ret) .skip), .code tl1] hAa eb k1 m1
  have hcb : ab.eval (.tmp 9) = .bool bb := by
    obtain ⟨K, _, _, x3⟩ := hAb
    exact x3.bool ec
  have st0' := Steps.head stepR_seq (Steps.trans sta (.head stepR_seq (.head stepR_seq stb)))
  cases bb with
  | true =>
    obtain ⟨sc, e2, hfin⟩ := hy rfl
    obtain ⟨ac, wc, hAc, stc⟩ := step1 [.code .ret, .code tl1] hAb e2 k2 m2
    obtain ⟨v, σ', g1, g2, g3, g4, g5, g6⟩ := fin_at hE rfl hAc fn hde hfin
    exact ⟨.returned v, wc, { b.atR ac [.code .ret, .code tl1] with mode := .returning }, ⟨v, σ', rfl, g3, g4, g5, g6⟩,
      Steps.trans st0' (.head (stepR_cond (t := true) hcb) (.head stepR_seq (Steps.trans stc (.one (stepR_ret hro))))), rfl, rfl, g2, rfl, fn, hfn, g1⟩
  | false =>
    obtain ⟨hlen, h0, ⟨tt, xx, hlv⟩, xs, s4, s9, e4, l4, p4, q4, u4, v4, hit, hend, hbd, e9, hfin⟩ := hn rfl
    obtain ⟨K1, x1, x2, x3⟩ := hAb
    -- begun anew
    have hs1 : Std C K1.σ wb := ⟨x3.mem.glob, x3.mem.new⟩
    have hrep0 : RepV C.E (gh0 K1.σ) wb (ab.tmps.getD 0 Go.undef) lv := by
      have := RepV.getD x3.size x3.tmps 0
      rw [List.getD_eq_getElem?_getD, h0, Option.getD_some, hlv] at this
      rw [hlv]
      exact enc_gh0 this
    have hbase : w.heap.size ≤ wb.heap.size := x2.size
    have hsz1 : ab.tmps.size = 21 := x3.size.trans hlen
    have hold : ∀ c, c < w.heap.size → K1.σ c = σ c := by
      obtain ⟨F, f1, f2⟩ := x3.mem.old
      have hF : F = (σ, fun _ => undef) := by
        rcases x1.σ0 with q | q
        · cases q
        · rw [f1] at q; cases q; rfl
      subst hF
      exact f2
    generalize hσ1 : K1.σ = σ1 at hs1 hrep0 hold
    generalize hbb : wb.heap.size = bk at *
    have hσb : ∀ c, bk ≤ c → σ1 c = 0 := fun c q => hs1.new c (by rw [hbb]; exact q)
    -- the builder
    have st3 := hand_val (P := C.P) (rest := []) (k := [.code (((Code.region 4 ops4 false).seq (.block 0 (.loop (putLB r5 r6 r8 ops7)))).seq ((Code.region 9 ops9 false).seq .ret))]) (cs := callers) (b := b) m3 x3.defers ho3 hg3 (hr3 ab wb)
    rw [hd3, hbb] at st3
    have bl3 : Below bk wb (wb.alloc (.cells #[.pointer none, .slice none 0 0] T)) := (Below.refl bk wb).alloc (by rw [hbb]; exact Nat.le_refl _) _
    have hB3 : Lib.IsBuilder T e bk bk (Lib.byteCells []) (wb.alloc (.cells #[.pointer none, .slice none 0 0] T)) := by
      have := Lib.fresh_isBuilder T e wb
      rwa [hbb] at this
    have hbw3 : bk < (wb.alloc (.cells #[.pointer none, .slice none 0 0] T)).heap.size := by rw [World.size_alloc, hbb]; exact Nat.lt_succ_self _
    generalize hw3 : wb.alloc (.cells #[.pointer none, .slice none 0 0] T) = w3 at st3 bl3 hB3 hbw3
    have hs3 : Std C σ1 w3 := hs1.below hσb bl3
    -- its list
    have st4 := hand_val (P := C.P) (rest := [1, 2]) (k := [.code (.block 0 (.loop (putLB r5 r6 r8 ops7))), .code ((Code.region 9 ops9 false).seq .ret)]) (cs := callers) (b := b) m4 (a := ab.put (some 4) (.pointer (some ⟨bk, 0, none⟩))) x3.defers ho4 hg4 (hr4 _ w3)
    rw [hd4] at st4
    have hev0 : (ab.put (some 4) (.pointer (some ⟨bk, 0, none⟩))).eval (.tmp 0) = ab.tmps.getD 0 Go.undef := put_getD (by decide)
    rw [hev0] at st4
    have hrl : RepV C.E (gh0 σ1) w3 (ab.tmps.getD 0 Go.undef) lv := hrep0.mono (ext_below hσb bl3)
    generalize ab.tmps.getD 0 Go.undef = lval at st4 hrl
    obtain ⟨a5, w5, _, kp5, st5⟩ := fr_ops hE hT hS hC (a := (ab.put (some 4) (.pointer (some ⟨bk, 0, none⟩))).put (some 10) lval) (l := pL4 lv) hs3 (by rw [put_size, put_size, hsz1]; rfl) x3.defers (fun j x hj => by
      match j, hj with
      | 0, hj | 1, hj | 2, hj | 3, hj | 5, hj | 6, hj | 7, hj | 8, hj | 9, hj | 11, hj | 12, hj | 13, hj | 14, hj | 15, hj | 16, hj | 17, hj | 18, hj | 19, hj | 20, hj => cases hj
      | 4, hj => cases hj; exact .undef _
      | 10, hj => cases hj; rw [put_getD_self (by rw [put_size, hsz1]; decide)]; exact hrl
      | n + 21, hj => simp [pL4] at hj) (is2 := []) e4 m4 b [.code (.block 0 (.loop (putLB r5 r6 r8 ops7))), .code ((Code.region 9 ops9 false).seq .ret)] callers
    have g10 := (kp5.known 10 10 _ q4).trans (put_getD_self (by rw [put_size, hsz1]; decide))
    have g4 := (kp5.known 4 4 _ p4).trans ((put_getD (by decide)).trans (put_getD_self (by rw [hsz1]; decide)))
    have hI : PInv C σ1 lv T e (xs.length : Int) w3 bk 0 [] a5 w5 := by
      refine ⟨kp5.std, kp5.below.mono (Nat.le_of_lt hbw3), Nat.lt_of_lt_of_le hbw3 kp5.below.size, kp5.defers, kp5.size.trans l4, g4, ?_, kp5.int 11 _ _ u4, kp5.int 12 _ _ v4, builder_below (B := 0) hB3 kp5.below⟩
      rw [g10]
      exact hrl.mono (ext_below hs3.new kp5.below)
    obtain ⟨a6, w6, h6, st6⟩ := put_loop hE hT hS hC hM hσb k5 k6 k8 m5 m6 m8 m7 hsz7 ho7 hg7 hd7 hop7 henW (hWr bk) hend xs 0 [] a5 w5 (by omega) (fun j x hj => by rw [Int.zero_add]; exact hit j x hj) (by simpa using hbd) hI b [.code ((Code.region 9 ops9 false).seq .ret)] callers
    rw [List.nil_append] at h6
    obtain ⟨v9, w9, ⟨hv9, bl9⟩, st9⟩ := hand_call (rest := [1, 2]) (k := [.code .ret]) (cs := callers) (b := b) m9 h6.defers ho9 hg9 hop9 (vs := #[.pointer (some ⟨bk, 0, none⟩)]) (by
      have e1 : a6.eval (.tmp 4) = .pointer (some ⟨bk, 0, none⟩) := h6.p
      simp [e1]) henS (hSt bk xs.flatten w6 h6.bld (Nat.le_of_lt h6.bw))
    rw [hd9, hv9] at st9
    obtain ⟨a10, w10, hA10, kp10, st10⟩ := fr_ops hE hT hS hC (a := a6.put (some 20) (.string ⟨xs.flatten.toArray⟩)) (l := pL9 xs.flatten) (h6.std.below hσb bl9) (by rw [put_size, h6.size]; rfl) h6.defers (fun j x hj => by
      match j, hj with
      | 0, hj | 1, hj | 2, hj | 3, hj | 4, hj | 5, hj | 6, hj | 7, hj | 8, hj | 9, hj | 10, hj | 11, hj | 12, hj | 13, hj | 14, hj | 15, hj | 16, hj | 17, hj | 18, hj | 19, hj => cases hj
      | 20, hj => cases hj; rw [put_getD_self (by rw [h6.size]; decide)]; exact .cell (.str _)
      | n + 21, hj => simp [pL9] at hj) (is2 := []) e9 m9 b [.code .ret] callers
    obtain ⟨v, σ', y1, y2, y3, y4, y5, y6⟩ := fin_at hE rfl hA10 fn hde hfin
    have hle : w.heap.size ≤ w9.heap.size := Nat.le_trans hbase (Nat.le_trans (Nat.le_of_lt h6.bw) bl9.size)
    have hbl : Below w.heap.size w w10 := (((x2.trans (bl3.mono hbase)).trans (h6.below.mono hbase)).trans (bl9.mono hbase)).trans (y3.mono hle)
    have hr3' : List.range ops3.size = [0] := by rw [hsz3]; rfl
    have hr4' : List.range ops4.size = [0, 1, 2] := by rw [hsz4]; rfl
    have hr9' : List.range ops9.size = [0, 1, 2] := by rw [hsz9]; rfl
    refine ⟨.returned v, w10, { b.atR a10 [.code .ret] with mode := .returning }, ⟨v, σ', rfl, hbl, fun c q => (y4 c (Nat.lt_of_lt_of_le q hle)).trans (hold c q), y5, y6⟩, ?_, rfl, rfl, y2, rfl, fn, hfn, y1⟩
    refine Steps.trans st0' (.head (stepR_cond (t := false) hcb) (.head stepR_skip ?_))
    rw [← hR1]
    refine .head stepR_seq (.head stepR_region ?_)
    rw [hr3']
    refine Steps.trans st3 (.head stepR_region_end (.head stepR_seq (.head stepR_seq (.head stepR_region ?_))))
    rw [hr4']
    refine Steps.trans st4 (Steps.trans st5 (.head stepR_region_end (.head stepR_block (.head stepR_loop (Steps.trans st6 (.head stepR_seq (.head stepR_region ?_)))))))
    rw [hr9']
    exact Steps.trans st9 (Steps.trans st10 (.head stepR_region_end (.one (stepR_ret hro))))
end
theorem alloc_run {P : Program} {o : Oper} {t : TypeId} (hop : o.op = .alloc t) {z : Value} (hz : (P.info? t).bind (·.zero) = some z) (a : Act) (w : World) :
    (execOp a.eval o).run P w = .ok (.value (.pointer (some ⟨w.heap.size, 0, none⟩))) (w.alloc (.cells z.cells t)) := by
  cases hi : P.info? t with
  | none => rw [hi] at hz; cases hz
  | some i =>
    rw [hi] at hz
    simp only [Option.bind_some] at hz
    simp [execOp, hop, Instr.alloc, zeroValue, typeInfo, hi, hz, newVar, newRow]
theorem move_run {P : Program} {o : Oper} {x : Operand} (hop : o.op = .move x) (a : Act) (w : World) : (execOp a.eval o).run P w = .ok (.value (a.eval x)) w := by
  simp [execOp, hop]
/-- The pieces of a body. -/
def cBody (f : Func) : Code := match f.body with
  | some c => c
  | none => .skip
def cFst : Code → Code
  | .seq a _ => a
  | c => c
def cSnd : Code → Code
  | .seq _ b => b
  | c => c
def cIn : Code → Code
  | .block _ b => b
  | .loop b => b
  | .cond _ a _ => a
  | c => c
def cOps : Code → Array Oper
  | .region _ ops _ => ops
  | _ => #[]
def oAt (ops : Array Oper) (i : Nat) : Oper := match ops[i]? with
  | some o => o
  | none => { dst := none, op := .move (.tmp 0), type := 0, pos := "", after := #[], guard := none }
end Go.Lv
namespace Go.Lv
set_option linter.all false
open Go Go.RowKit
variable {S : Nat → Type}
section
variable {C : Ctx S} {B : Nat}
theorem promo_ok {K : Gh} {w : World} {s : St S} {a : Act} (x3 : RelS C K w B s a) {id off : Nat} {cs : List (V S)} {fz : Bool} (hm : s.mem[id]? = some (.box cs fz)) (hv : cs[off]? = some .nilS) (e : TypeId) (T : Ty) :
    ∃ K', Ext K w K' w ∧ RelS C K' w B { s with mem := s.mem.set id (.box (cs.set off (.own s.mem.length 0)) fz) ++ [.arr e T [] 0 false] } a := by
  obtain ⟨g0, hlv, c, ce, h1, h2, h3, h4, h5⟩ := x3.mem.ob id _ hm
  have hlt := (List.getElem?_eq_some_iff.1 hv).1
  have hla : off < c.size := by omega
  have hrep := h3 off c[off] .nilS (by simp [hla]) hv
  generalize hu : c[off] = u at hrep
  cases hrep with
  | nilS ad =>
    obtain ⟨K', y1, y2, y3⟩ := newNil x3.mem e T ad
    have hidlt : id < s.mem.length := (List.getElem?_eq_some_iff.1 hm).1
    have hm' : (s.mem ++ [Ob.arr e T [] 0 false])[id]? = some (.box cs fz) := by rw [List.getElem?_append_left hidlt]; exact hm
    obtain ⟨k0, klv, c', ce', k1, k2, k3, k4, k5⟩ := y2.ob id _ hm'
    have hset : s.mem.set id (.box (cs.set off (.own s.mem.length 0)) fz) ++ [Ob.arr e T [] 0 false] = (s.mem ++ [Ob.arr e T [] 0 false]).set id (.box (cs.set off (.own s.mem.length 0)) fz) := by
      rw [List.set_append_left _ _ hidlt]
    rw [hset]
    have hin : id < K'.n := by rw [y2.n]; simp; omega
    have hin0 : id < K.n := by rw [x3.mem.n]; exact hidlt
    have hι : K'.ι id = K.ι id := by
      obtain ⟨q1, q2⟩ := y1.id id hin0
      exact (q2 (by rw [k0, g0])).1
    have hcc : c' = c := by
      rw [hι, h1] at k1
      cases k1; rfl
    subst hcc
    refine ⟨K', y1, x3.ext y1 (y2.set hin (.refl K' w) rfl (fun j _ _ => ⟨rfl, rfl, rfl, rfl, rfl⟩) (fun _ => .inl rfl) (fun k _ _ => rfl) (Nat.le_refl _) (fun q => .inl ⟨q, rfl⟩) y2.new ?_)⟩
    refine ⟨k0, klv, c', ce', k1, by simpa using k2, fun j v x p q => ?_, k4, k5⟩
    by_cases ej : j = off
    · subst ej
      rw [List.getElem?_set_self hlt] at q
      cases q
      rw [Array.getElem?_eq_getElem hla, hu, Option.some.injEq] at p
      subst p
      exact y3
    · rw [List.getElem?_set_ne (fun r => ej r.symm)] at q
      exact k3 j v x p q
def canonS (objs : Nat) (keep slots : List Nat) (s : St S) : St S := { tmps := convT s.mem (keepF objs keep) (inL slots) 0 s.tmps, mem := convM s.mem (keepF objs keep) 0 (s.mem.take objs) }
theorem turn_ok {K0 K : Gh} (h0 : K0.n = 0) {w0 w : World} {s : St S} {a : Act} {v2 : Array Value} {t2 : List (V S)} (x1 : Ext K0 w0 K w) (x3 : RelS C K w B s a) (x4 : RepL C.E K w v2 t2) (objs : Nat) (keep slots : List Nat) :
    ∃ K', Ext K0 w0 K' w ∧ RelS C K' w B (canonS objs keep slots s) a ∧ RepL C.E K' w v2 (t2.map (convL s.mem (keepF objs keep))) ∧ ∀ i, K'.ι i = K.ι i := by
  have hk : ∀ i, keepF objs keep i = true → i < objs := fun i => keepF_lt
  refine ⟨K.turn s.mem objs (keepF objs keep), ⟨by rw [h0]; exact Nat.zero_le _, fun i hi => by omega, x1.σ, x1.cell, x1.map, x1.σ0⟩, ⟨?_, fun j c v p q => ?_, x3.defers, turn_rel x3.mem hk⟩, ⟨by rw [List.length_map]; exact x4.1, fun j c v p q => ?_⟩, fun _ => rfl⟩
  · show _ = (convT s.mem (keepF objs keep) (inL slots) 0 s.tmps).length
    rw [convT_len]; exact x3.size
  · have q' : (convT s.mem (keepF objs keep) (inL slots) 0 s.tmps)[j]? = some v := q
    rw [convT_get, Nat.zero_add] at q'
    cases hv : s.tmps[j]? with
    | none => rw [hv] at q'; cases q'
    | some z =>
      rw [hv] at q'
      simp only [Option.map_some, Option.some.injEq] at q'
      subst q'
      cases inL slots j with
      | true => exact convL_rep x3.mem hk (x3.tmps j c z p hv)
      | false => exact .undef _
  · rw [List.getElem?_map] at q
    cases hv : t2[j]? with
    | none => rw [hv] at q; cases q
    | some z =>
      rw [hv] at q
      simp only [Option.map_some, Option.some.injEq] at q
      subst q
      exact convL_rep x3.mem hk (x4.2 j c z p hv)
end
end Go.Lv
