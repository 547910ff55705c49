import Derived.Test.YtiajkejmabflaaaDoorLaC
import Derived.ChangeArms
import Derived.WideShapes
import Derived.ChangeShapes
import Derived.WalkKit
import Derived.ProofKit
import Derived.OpenShut
import Derived.ChangeOld
import Derived.SizedLaws
import Derived.JoinedOf
import Derived.LaidMore
import Derived.LaidHandle
import Derived.LaidLaws
import Derived.Handed
import Derived.WideKeyElems2
import Derived.Test.YtiajkejmabflaaaDoorLaA
import Derived.KernelRfl
namespace Go.Lv
set_option linter.all false
open Go Go.RowKit
variable {S : Nat → Type}
/-- Each struct's cells make one. -/
def EnvFill (E : Env S) : Prop := ∀ i (cells : List (Cell S)), cells.map (·.t) = E.tys i → ∃ x, E.toC i x = cells
/-- In range. -/
inductive Wf (E : Env S) : (t : Ty) → den S t → Prop where
  | bool (b : Bool) : Wf E .bool b
  | int (k : IntKind) (n : Int) (h : (Lit.int k n).wf = true) : Wf E (.int k) n
  | str (l : List UInt8) (h : l.length ≤ maxLen) : Wf E .str l
  | err (b : Bool) : Wf E .err b
  | slice (t : Ty) (l : List (den S t)) (hl : l.length ≤ maxLen) (h : ∀ (i : Nat) (x : den S t), l[i]? = some x → ∀ (j : Nat) (c : Cell S), (cellsOf E t x)[j]? = some c → Wf E c.t c.x) : Wf E (.slice t) l
def WfV (E : Env S) (t : Ty) (x : den S t) : Prop := ∀ (j : Nat) (c : Cell S), (cellsOf E t x)[j]? = some c → Wf E c.t c.x
/-- The whole of what is there is held. -/
def sig (w : World) (b : Nat) : Nat := match w.heap[b]? with
  | some (.cells c _ _) => c.size
  | some (.map _ _) => 1
  | _ => 0
theorem sig_cell {w : World} {b o : Nat} {v : Value} (h : w.cell? ⟨b, o, none⟩ = some v) : o < sig w b := by
  unfold World.cell? at h
  unfold sig
  split at h
  · rename_i c e fr hb
    simp only at hb
    rw [hb]
    simp only [Option.isSome_none, Bool.false_eq_true, if_false] at h
    exact (Array.getElem?_eq_some_iff.1 h).1
  · cases h
theorem sig_new {w : World} (b : Nat) (h : w.heap.size ≤ b) : sig w b = 0 := by
  unfold sig; rw [Array.getElem?_eq_none h]
def flatF (P : Program) (flat : TypeId → Option (List Ty)) : Nat → List Field → Option (List Ty)
  | _, [] => some []
  | off, f :: fs => if f.offset = off then (flat f.type).bind fun ts => (flatF P flat (off + ts.length) fs).map fun r => ts ++ r else none
/-- A type's cells. -/
def flat (P : Program) (ty : TypeId → Option Ty) : Nat → TypeId → Option (List Ty)
  | 0, _ => none
  | n + 1, t => (match P.underlying t with
    | some .bool => some [Ty.bool]
    | some (.int k) => some [Ty.int k]
    | some .string => some [Ty.str]
    | some (.interface _) => some [Ty.err]
    | some (.slice e) => (ty e).map fun T => [Ty.slice T]
    | some (.struct fs) => flatF P (flat P ty n) 0 fs.toList
    | _ => none).bind fun ts => if P.cellsOf t = ts.length then some ts else none
def cellTys (E : Env S) : Ty → List Ty
  | .st i => E.tys i
  | t => [t]
def isStT : Ty → Bool
  | .st _ => true
  | _ => false
def isStr (P : Program) (t : TypeId) : Bool := match P.underlying t with
  | some (.struct _) => true
  | _ => false
def TabOK (C : Ctx S) : Prop := ∀ t T, C.ty t = some T → (∃ n, flat C.P C.ty n t = some (cellTys C.E T)) ∧ 0 < tsize C.E T ∧ isStr C.P t = isStT T
theorem flat_len {P : Program} {ty : TypeId → Option Ty} {n : Nat} {t : TypeId} {ts : List Ty} (h : flat P ty n t = some ts) : P.cellsOf t = ts.length := by
  cases n with
  | zero => simp [flat] at h
  | succ n =>
    simp only [flat] at h
    rw [Option.bind_eq_some_iff] at h
    obtain ⟨ts', _, h⟩ := h
    split at h
    · cases h; assumption
    · cases h
theorem fill (E : Env S) (hF : EnvFill E) (T : Ty) (cells : List (Cell S)) (h : cells.map (·.t) = cellTys E T) : ∃ x : den S T, cellsOf E T x = cells := by
  have leaf : ∀ T : Ty, cells.map (·.t) = [T] → ∃ x : den S T, cells = [⟨T, x⟩] := by
    intro T h
    match cells, h with
    | [⟨t, x⟩], h =>
      simp at h
      subst h
      exact ⟨x, rfl⟩
  cases T with
  | st i => exact hF i cells h
  | bool => obtain ⟨x, hx⟩ := leaf .bool h; exact ⟨x, hx.symm⟩
  | int k => obtain ⟨x, hx⟩ := leaf (.int k) h; exact ⟨x, hx.symm⟩
  | str => obtain ⟨x, hx⟩ := leaf .str h; exact ⟨x, hx.symm⟩
  | err => obtain ⟨x, hx⟩ := leaf .err h; exact ⟨x, hx.symm⟩
  | fn => obtain ⟨x, hx⟩ := leaf .fn h; exact ⟨x, hx.symm⟩
  | slice t => obtain ⟨x, hx⟩ := leaf (.slice t) h; exact ⟨x, hx.symm⟩
section
variable {H : Type} {enc : TypeId × Value → H} {C : Ctx S} {W : World} {sp : Nat → Bool}
theorem addr_add (a : Addr) (m r : Nat) : (a.add m).add r = a.add (m + r) := by
  unfold Addr.add
  by_cases h : m = 0 <;> by_cases h' : r = 0 <;> simp [*, Nat.add_assoc]
theorem addr_plain (b off j : Nat) : (⟨b, off, none⟩ : Addr).add j = ⟨b, off + j, none⟩ := by
  unfold Addr.add
  by_cases h : j = 0 <;> simp [*]
/-- Cells that are told. -/
def Told (E : Env S) (W : World) (cs : List Value) (cells : List (Cell S)) : Prop :=
  cs.length = cells.length ∧ ∀ (j : Nat) (v : Value) (c : Cell S), cs[j]? = some v → cells[j]? = some c → Rep E (sig W) W v c.t c.x ∧ Wf E c.t c.x
theorem Told.one {E : Env S} {v : Value} {t : Ty} {x : den S t} (h : Rep E (sig W) W v t x) (hw : Wf E t x) : Told E W [v] [⟨t, x⟩] := by
  refine ⟨rfl, fun j u c p q => ?_⟩
  cases j with
  | zero => simp only [List.getElem?_cons_zero, Option.some.injEq] at p q; subst p q; exact ⟨h, hw⟩
  | succ j => simp at p
theorem cells?_get {w : World} {base : Nat} {a : Addr} : ∀ {n : Nat} {cs : List Value}, w.cells? base a n = some cs → cs.length = n ∧ ∀ i, i < n → w.cell? (a.add i) = cs[i]? := by
  intro n cs h
  unfold World.cells? at h
  split at h
  · exact ⟨by simpa using mapM_some_length h, fun i hi => by simpa using mapM_some_get h i i (by simp [hi])⟩
  · cases h
theorem read_cells (hTab : TabOK C) (hF : EnvFill C.E) (hE : EnvOK C.E) : ∀ (n : Nat) (t : TypeId) (k : Nat) (ts : List Ty) (cs : List Value) (x : DataW H × List MemPlace),
    DataW.trod enc C.P W 0 sp true n t cs = some x → flat C.P C.ty k t = some ts → ∃ cells : List (Cell S), cells.map (·.t) = ts ∧ Told C.E W cs cells := by
  intro n
  induction n with
  | zero => intro t k ts cs x h; simp [DataW.trod] at h
  | succ n ih =>
    intro t k ts cs x h hf
    have hcl := flat_len hf
    cases k with
    | zero => simp [flat] at hf
    | succ k =>
      simp only [flat] at hf
      rw [Option.bind_eq_some_iff] at hf
      obtain ⟨ts', hf, hts⟩ := hf
      have : ts' = ts := by
        split at hts
        · cases hts; rfl
        · cases hts
      subst this
      split at hf
      · rename_i hu
        cases hf
        obtain ⟨b, rfl, _⟩ := DataW.trod_bool hu h
        exact ⟨[⟨.bool, b⟩], rfl, .one (.bool b) (.bool b)⟩
      · rename_i kk hu
        cases hf
        obtain ⟨m, rfl, _, hw⟩ := DataW.trod_int hu h
        exact ⟨[⟨.int kk, m⟩], rfl, .one (.int kk m) (.int kk m hw)⟩
      · rename_i hu
        cases hf
        obtain ⟨s, rfl, _, hs⟩ := DataW.trod_string hu h
        refine ⟨[⟨.str, s.data.toList⟩], rfl, .one ?_ (.str _ (by have e : s.data.toList.length = s.size := Array.length_toList; rw [e]; exact hs))⟩
        have := Rep.str (E := C.E) (σ := sig W) (w := W) s.data.toList
        simpa using this
      · rename_i hu
        cases hf
        have key : cs = [.nilIface] ∨ ∃ u v, cs = [.iface u v] := by
          unfold DataW.trod at h
          rw [hu] at h
          split at h <;> simp_all
        rcases key with rfl | ⟨u, v, rfl⟩
        · exact ⟨[⟨.err, false⟩], rfl, .one .errNil (.err _)⟩
        · exact ⟨[⟨.err, true⟩], rfl, .one (.err u v) (.err _)⟩
      · rename_i e hu
        cases hty : C.ty e with
        | none => rw [hty] at hf; cases hf
        | some T =>
          rw [hty] at hf
          simp only [Option.map_some, Option.some.injEq] at hf
          subst hf
          obtain ⟨⟨k', hflat⟩, hT0, _⟩ := hTab e T hty
          rcases DataW.trod_slice hu h with ⟨rfl, _⟩ | ⟨a, len, cap, elems, rest, n', hn, rfl, _, _, hl, hm, hlen, hel, _, _⟩
          · exact ⟨[⟨.slice T, ([] : List (den S T))⟩], rfl, .one (.nil T none 0) (.slice T [] (Nat.zero_le _) fun i x q => by simp at q)⟩
          · have hn' : n' = n := by omega
            subst hn'
            have hsz : C.P.cellsOf e = tsize C.E T := by
              rw [flat_len hflat]
              cases T <;> rfl
            have each : ∀ i, i < len → ∃ y : den S T, ∃ cs', W.cells? 0 (a.add (i * C.P.cellsOf e)) (C.P.cellsOf e) = some cs' ∧ Told C.E W cs' (cellsOf C.E T y) := by
              intro i hi
              have := hel i hi
              have hi' : i < elems.length := by omega
              rw [List.getElem?_eq_getElem hi', Option.bind_eq_some_iff] at this
              obtain ⟨cs', h1, h2⟩ := this
              obtain ⟨cells, h3, h4⟩ := ih e k' _ cs' _ h2 hflat
              obtain ⟨y, rfl⟩ := fill C.E hF T cells h3
              exact ⟨y, cs', h1, h4⟩
            have pick : ∀ m, m ≤ len → ∃ l : List (den S T), l.length = m ∧ ∀ (i : Nat) (y : den S T), l[i]? = some y → ∃ cs', W.cells? 0 (a.add (i * C.P.cellsOf e)) (C.P.cellsOf e) = some cs' ∧ Told C.E W cs' (cellsOf C.E T y) := by
              intro m
              induction m with
              | zero => intro _; exact ⟨[], rfl, fun i y q => by simp at q⟩
              | succ m ihm =>
                intro hm'
                obtain ⟨l, l1, l2⟩ := ihm (by omega)
                obtain ⟨y, hy⟩ := each m (by omega)
                refine ⟨l ++ [y], by simp [l1], fun i z q => ?_⟩
                by_cases hi : i < l.length
                · rw [List.getElem?_append_left hi] at q; exact l2 i z q
                · have hi2 : i = m := by
                    have := (List.getElem?_eq_some_iff.1 q).1
                    simp at this; omega
                  subst hi2
                  rw [← l1, List.getElem?_concat_length, Option.some.injEq] at q
                  subst q
                  exact hy
            obtain ⟨l, rfl, hl2⟩ := pick len (Nat.le_refl _)
            have hwf : Wf C.E (.slice T) l := .slice T l (by omega) fun i y q j c r => by
              obtain ⟨cs', c1, c2, c3⟩ := hl2 i y q
              have hj : j < cs'.length := by rw [c2]; exact (List.getElem?_eq_some_iff.1 r).1
              exact (c3 j cs'[j] c (List.getElem?_eq_getElem hj) r).2
            refine ⟨[⟨.slice T, l⟩], rfl, .one ?_ hwf⟩
            by_cases hz : l.length * tsize C.E T = 0
            · have : l = [] := by
                cases l with
                | nil => rfl
                | cons y r =>
                  exfalso
                  rcases Nat.mul_eq_zero.1 hz with q | q
                  · simp at q
                  · omega
              subst this
              exact .nil T _ _
            · have hone : ∀ j, j < l.length * tsize C.E T → ∃ v, W.cell? (a.add j) = some v ∧ ∀ (i : Nat) (y : den S T), l[i]? = some y → ∀ (j' : Nat) (c : Cell S), (cellsOf C.E T y)[j']? = some c → j = i * tsize C.E T + j' → Rep C.E (sig W) W v c.t c.x := by
                intro j hj
                have hT : 0 < tsize C.E T := by
                  rcases Nat.eq_zero_or_pos (tsize C.E T) with q | q
                  · rw [q] at hz; simp at hz
                  · exact q
                have hi : j / tsize C.E T < l.length := Nat.div_lt_of_lt_mul (by rw [Nat.mul_comm]; exact hj)
                obtain ⟨cs', c1, c2, c3⟩ := hl2 (j / tsize C.E T) _ (List.getElem?_eq_getElem hi)
                obtain ⟨g1, g2⟩ := cells?_get c1
                have hr : j % tsize C.E T < C.P.cellsOf e := by rw [hsz]; exact Nat.mod_lt _ hT
                have hg := g2 _ hr
                have hdm : j / tsize C.E T * tsize C.E T + j % tsize C.E T = j := Nat.div_add_mod' j _
                have ha : (a.add (j / tsize C.E T * C.P.cellsOf e)).add (j % tsize C.E T) = a.add j := by
                  rw [hsz]
                  rw [addr_add, hdm]
                rw [ha] at hg
                have hlt : j % tsize C.E T < cs'.length := by omega
                refine ⟨cs'[j % tsize C.E T], by rw [hg, List.getElem?_eq_getElem hlt], fun i y hy j' c hc e => ?_⟩
                have hj' : j' < tsize C.E T := by rw [← cellsOf_len hE T y]; exact (List.getElem?_eq_some_iff.1 hc).1
                have e1 : i = j / tsize C.E T := by rw [e, Nat.mul_comm, Nat.mul_add_div hT, Nat.div_eq_of_lt hj']; rfl
                have e2 : j' = j % tsize C.E T := by rw [e, Nat.mul_comm, Nat.mul_add_mod, Nat.mod_eq_of_lt hj']
                subst e1 e2
                rw [List.getElem?_eq_getElem hi, Option.some.injEq] at hy
                subst hy
                exact (c3 _ _ c (List.getElem?_eq_getElem hlt) hc).1
              have hspot : a.spot = none := by
                obtain ⟨v, hv, _⟩ := hone 0 (by omega)
                unfold World.cell? at hv
                split at hv
                · split at hv
                  · cases hv
                  · rename_i q; cases hs : a.spot with
                    | none => rfl
                    | some _ => simp [Addr.add, hs] at q
                · cases hv
              obtain ⟨b, off, spot⟩ := a
              simp only at hspot
              subst hspot
              let vs : Nat → Value := fun j => (W.cell? ⟨b, off + j, none⟩).getD undef
              have hvs : ∀ j, j < l.length * tsize C.E T → W.cell? ⟨b, off + j, none⟩ = some (vs j) := by
                intro j hj
                obtain ⟨v, hv, _⟩ := hone j hj
                have : W.cell? ⟨b, off + j, none⟩ = some v := (addr_plain b off j) ▸ hv
                simp only [vs, this, Option.getD_some]
              refine .slice T l b off cap vs (by omega) ?_ hvs fun i y hy j c hc => ?_
              · have := sig_cell (hvs (l.length * tsize C.E T - 1) (by omega))
                omega
              · have hj' : j < tsize C.E T := by rw [← cellsOf_len hE T y]; exact (List.getElem?_eq_some_iff.1 hc).1
                have hi : i < l.length := (List.getElem?_eq_some_iff.1 hy).1
                have hlt : i * tsize C.E T + j < l.length * tsize C.E T := by
                  have : (i + 1) * tsize C.E T ≤ l.length * tsize C.E T := Nat.mul_le_mul_right _ hi
                  rw [Nat.succ_mul] at this
                  omega
                obtain ⟨v, hv, hv2⟩ := hone _ hlt
                have : W.cell? ⟨b, off + (i * tsize C.E T + j), none⟩ = some v := (addr_plain b off _) ▸ hv
                have e : vs (i * tsize C.E T + j) = v := by simp only [vs, this, Option.getD_some]
                rw [e]
                exact hv2 i y hy j c hc rfl
      · rename_i fs hu
        obtain ⟨xs, n', hn, _, hcs, hxl, hxs⟩ := DataW.trod_struct hu h
        have hn' : n' = n := by omega
        subst hn'
        have main : ∀ (l : List Field) (off : Nat) (r : List Ty), (∀ f, f ∈ l → ∃ y, DataW.trod enc C.P W 0 sp true n' f.type ((cs.drop f.offset).take (C.P.cellsOf f.type)) = some y) → flatF C.P (flat C.P C.ty k) off l = some r → off + r.length ≤ cs.length →
            ∃ cells : List (Cell S), cells.map (·.t) = r ∧ Told C.E W ((cs.drop off).take r.length) cells := by
          intro l
          induction l with
          | nil =>
            intro off r _ hr _
            simp only [flatF, Option.some.injEq] at hr
            subst hr
            exact ⟨[], rfl, by simp [Told]⟩
          | cons f l ihl =>
            intro off r hl hr hle
            simp only [flatF] at hr
            split at hr
            · rename_i hoff
              rw [Option.bind_eq_some_iff] at hr
              obtain ⟨ts1, h1, hr⟩ := hr
              rw [Option.map_eq_some_iff] at hr
              obtain ⟨r2, h2, hr⟩ := hr
              subst hr
              obtain ⟨y, hy⟩ := hl f (by simp)
              rw [hoff, flat_len h1] at hy
              obtain ⟨c1, q1, q2, q3⟩ := ih f.type k ts1 _ y hy h1
              rw [List.length_append] at hle
              obtain ⟨c2, p1, p2, p3⟩ := ihl (off + ts1.length) r2 (fun g hg => hl g (by simp [hg])) h2 (by omega)
              have hc1 : c1.length = ts1.length := by rw [← q1]; simp
              have e : (cs.drop off).take (ts1.length + r2.length) = (cs.drop off).take ts1.length ++ (cs.drop (off + ts1.length)).take r2.length := by
                rw [List.take_add, List.drop_drop]
              refine ⟨c1 ++ c2, by simp [q1, p1], ?_⟩
              rw [List.length_append, e]
              refine ⟨by rw [List.length_append, List.length_append, q2, p2], fun j v c hv hc => ?_⟩
              by_cases hj : j < c1.length
              · rw [List.getElem?_append_left hj] at hc
                rw [List.getElem?_append_left (by rw [q2]; exact hj)] at hv
                exact q3 j v c hv hc
              · rw [List.getElem?_append_right (by omega)] at hc
                rw [List.getElem?_append_right (by rw [q2]; omega), q2] at hv
                exact p3 _ v c hv hc
            · cases hr
        obtain ⟨cells, h1, h2⟩ := main fs.toList 0 ts' (fun f hf => by
          obtain ⟨i, hi⟩ := List.getElem?_of_mem hf
          have hi2 : fs[i]? = some f := by simpa using hi
          have := hxs i f hi2
          have hlt : i < xs.length := by rw [hxl]; exact (Array.getElem?_eq_some_iff.1 hi2).1
          rw [List.getElem?_eq_getElem hlt] at this
          exact ⟨_, this⟩) hf (by rw [hcs, hcl]; omega)
        refine ⟨cells, h1, ?_⟩
        have : (cs.drop 0).take ts'.length = cs := by rw [List.drop_zero, List.take_of_length_le]; omega
        rwa [this] at h2
      · cases hf
end
end Go.Lv
namespace Go.Lv
set_option linter.all false
open Go Go.RowKit Go.ChangeShapes Go.WideShapes Go.ChangeAt
variable {S : Nat → Type}
section
variable {H : Type} {enc : TypeId × Value → H} {C : Ctx S} {W : World} {sp : Nat → Bool}
theorem flat_cell {P : Program} {w : World} {base : Nat} {ty : TypeId → Option Ty} {n : Nat} {t : TypeId} {ts : List Ty} {v : Value} (hf : flat P ty n t = some ts) (hs : isStr P t = false) (h : Value.okWide P w .any base t v) : v.cells = #[v] := by
  cases n with
  | zero => simp [flat] at hf
  | succ n =>
    simp only [flat] at hf
    rw [Option.bind_eq_some_iff] at hf
    obtain ⟨ts', hf, _⟩ := hf
    split at hf <;> rename_i hu <;> first | (simp only [isStr, hu] at hs; done) | skip
    all_goals first
      | cases hf; done
      | (simp only [isStr, hu] at hs; cases hs; done)
      | (simp only [Value.okWide, hu, Cell.okWide] at h; cases v <;> simp_all [Cell.ok, Value.cells]; done)
theorem read_arg (hTab : TabOK C) (hF : EnvFill C.E) (hE : EnvOK C.E) {base : Nat} {t : TypeId} {T : Ty} (hty : C.ty t = some T) {v : Value} {d : DataW H} {ps : List MemPlace}
    (hok : Value.okWide C.P W .any base t v) (h : DataW.Trod enc C.P W 0 sp true t v d ps) : ∃ x : den S T, RepV C.E (gh0 (sig W)) W v (encV C.E T x) ∧ WfV C.E T x := by
  obtain ⟨fuel, h⟩ := h
  obtain ⟨⟨n, hflat⟩, h0, hstr⟩ := hTab t T hty
  obtain ⟨cells, h1, h2, h3⟩ := read_cells hTab hF hE fuel t n _ _ _ h hflat
  obtain ⟨x, rfl⟩ := fill C.E hF T cells h1
  refine ⟨x, ?_, fun j c hc => ?_⟩
  · have leaf : (∀ i, T ≠ .st i) → RepV C.E (gh0 (sig W)) W v (.cell T x) := by
      intro hT
      have hs : isStr C.P t = false := by
        rw [hstr]
        cases T with
        | st i => exact absurd rfl (hT i)
        | _ => rfl
      have hc := flat_cell hflat hs hok
      have hcell : cellsOf C.E T x = [⟨T, x⟩] := by
        cases T with
        | st i => exact absurd rfl (hT i)
        | _ => rfl
      rw [hc, hcell] at h3
      exact .cell (h3 0 v ⟨T, x⟩ rfl rfl).1
    cases T with
    | st i =>
      have hs : isStr C.P t = true := hstr
      unfold isStr at hs
      split at hs
      · rename_i fs hu
        obtain ⟨cs, rfl, _⟩ := okWide_struct hu hok
        have hl : cs.size = (C.E.toC i x).length := by simpa [Value.cells, cellsOf] using h2
        refine .agg cs _ (by simpa using hl) fun j c u hc hu => ?_
        rw [List.getElem?_map] at hu
        cases hcl : (C.E.toC i x)[j]? with
        | none => rw [hcl] at hu; simp at hu
        | some cl =>
          rw [hcl] at hu
          simp only [Option.map_some, Option.some.injEq] at hu
          subst hu
          exact .cell (h3 j c cl (by simpa [Value.cells] using hc) hcl).1
      · cases hs
    | bool => exact leaf (fun i e => by cases e)
    | int k => exact leaf (fun i e => by cases e)
    | str => exact leaf (fun i e => by cases e)
    | err => exact leaf (fun i e => by cases e)
    | fn => exact leaf (fun i e => by cases e)
    | slice t => exact leaf (fun i e => by cases e)
  · have hj : j < v.cells.toList.length := by rw [h2]; exact (List.getElem?_eq_some_iff.1 hc).1
    exact (h3 j _ c (List.getElem?_eq_getElem hj) hc).2
/-- Arguments in range. -/
def ArgsOK (E : Env S) (ts : List Ty) (cs : List (Cell S)) : Prop := cs.map (·.t) = ts ∧ ∀ c, c ∈ cs → WfV E c.t c.x
theorem read_args (hTab : TabOK C) (hF : EnvFill C.E) (hE : EnvOK C.E) {base : Nat} : ∀ (ts : List TypeId) (Ts : List Ty) (vs : List Value) (ds : List (DataW H)) (ps : List MemPlace), ts.map C.ty = Ts.map some → DataW.TrodAll enc C.P W 0 sp true ts vs ds ps →
    (∀ (j : Nat) (t : TypeId) (v : Value), ts[j]? = some t → vs[j]? = some v → Value.okWide C.P W .any base t v) →
    ∃ cs : List (Cell S), ArgsOK C.E Ts cs ∧ vs.length = cs.length ∧ ∀ (j : Nat) (v : Value) (c : Cell S), vs[j]? = some v → cs[j]? = some c → RepV C.E (gh0 (sig W)) W v (encV C.E c.t c.x)
  | [], Ts, vs, ds, ps, hT, h, _ => by
    obtain ⟨rfl, _, _⟩ := trodAll_nil h
    cases Ts with
    | nil => exact ⟨[], ⟨rfl, fun c hc => by cases hc⟩, rfl, fun j v c hv => by simp at hv⟩
    | cons T Ts => simp at hT
  | t :: ts, Ts, vs, ds, ps, hT, h, hok => by
    obtain ⟨v, vs', d, ds', p, q, rfl, rfl, rfl, h1, h2⟩ := trodAll_cons h
    cases Ts with
    | nil => simp at hT
    | cons T Ts =>
      simp only [List.map_cons, List.cons.injEq] at hT
      obtain ⟨x, x1, x2⟩ := read_arg hTab hF hE hT.1 (hok 0 t v rfl rfl) h1
      obtain ⟨cs, ⟨c1, c2⟩, c3, c4⟩ := read_args hTab hF hE ts Ts vs' ds' q hT.2 h2 (fun j t v a b => hok (j + 1) t v a b)
      refine ⟨⟨T, x⟩ :: cs, ⟨by simp [c1], fun c hc => ?_⟩, by simp [c3], fun j u c hu hc => ?_⟩
      · rcases List.mem_cons.1 hc with rfl | hc
        · exact x2
        · exact c2 c hc
      · cases j with
        | zero => simp only [List.getElem?_cons_zero, Option.some.injEq] at hu hc; subst hu hc; exact x1
        | succ j => exact c4 j u c hu hc
theorem shut_args {P : Program} (hl : laidOutB P = true) {W W' : World} (hb : Below W.heap.size W W') : ∀ (ts : List TypeId) (vs : List Value) (ds : List (DataW H)) (ps : List MemPlace), (∀ t, t ∈ ts → P.readableRec t = true ∧ t < P.types.size) →
    DataW.TrodAll enc P W 0 (fun _ => true) true ts vs ds ps → DataW.TrodAll enc P W' 0 (fun b => decide (b < W.heap.size)) true ts vs ds ps
  | [], vs, ds, ps, _, h => by obtain ⟨rfl, rfl, rfl⟩ := trodAll_nil h; exact trodAll_mk0
  | t :: ts, vs, ds, ps, hr, h => by
    obtain ⟨v, vs', d, ds', p, q, rfl, rfl, rfl, h1, h2⟩ := trodAll_cons h
    have hlt : ∀ x ∈ p, x.block < W.heap.size := by obtain ⟨m, hm⟩ := h1; exact DataW.trod_lt m _ _ _ hm
    exact trodAll_cons_mk (Below.trod hl (hr t (by simp)).1 (hr t (by simp)).2 h1 hb hlt) (shut_args hl hb ts vs' ds' q (fun t ht => hr t (by simp [ht])) h2)
end
end Go.Lv
namespace Go.Lv
set_option linter.all false
open Go Go.RowKit Go.ChangeShapes Go.WideShapes Go.ChangeAt
variable {S : Nat → Type}
/-- What package-level variables hold. -/
def glL : List (Nat × List (V S)) → Nat → Option (List (V S))
  | [], _ => none
  | p :: r, g => bif Nat.beq p.1 g then some p.2 else glL r g
theorem glL_mem : ∀ {l : List (Nat × List (V S))} {g : Nat} {cs : List (V S)}, glL l g = some cs → (g, cs) ∈ l
  | [], _, _, h => by cases h
  | p :: r, g, cs, h => by
    unfold glL at h
    cases e : Nat.beq p.1 g with
    | true =>
      rw [e] at h
      have e2 := Nat.eq_of_beq_eq_true e
      simp only [cond_true, Option.some.injEq] at h
      subst h e2
      exact List.mem_cons_self
    | false =>
      rw [e] at h
      exact List.mem_cons_of_mem _ (glL_mem h)
theorem globOK_of {C : Ctx S} {l : List (Nat × List (V S))} {W : World} (hl : C.G = glL l) (h : ∀ p, p ∈ l → RepV C.E (gh0 (sig W)) W (.pointer (some ⟨p.1, 0, none⟩)) (.ro p.2) ∧ 0 < sig W p.1 ∧ ∃ c t f, W.heap[p.1]? = some (.cells c t f) ∧ c.size = p.2.length) : GlobOK C (sig W) W := by
  intro g cs hg
  rw [hl] at hg
  exact h (g, cs) (glL_mem hg)
theorem keyOf_int {P : Program} {k : TypeId} {v : Value} {l : Lit} (hk : P.underlying k = some (.int .i64)) (h : keyOf P k v = some l) : ∃ n, v = .int .i64 n ∧ l = .int .i64 n := by
  unfold keyOf at h
  rw [hk] at h
  simp only [mapKey, hk] at h
  cases v <;> simp at h
  obtain ⟨⟨h1, h2⟩, h3⟩ := h
  subst h1
  exact ⟨_, rfl, h3.symm⟩
theorem mem_ins {H : Type} : ∀ {l : List (Lit × DataW H)} {y : Lit × DataW H}, y ∈ l.foldr DataW.insert [] ↔ y ∈ l
  | [], y => Iff.rfl
  | x :: l, y => by
    rw [List.foldr_cons, ChangeMaps.mem_insert_iff, mem_ins, List.mem_cons]
section
variable {H : Type} {P : Program} {W : World} {k e : TypeId} {R : Value → Option (DataW H × List MemPlace)} {es : Array MapEntry} {clock : Nat}
open Go.WideElems
/-- A map that reads as a datum: each key's value, whatever the entries' order. -/
theorem cmap_laid {E : Env S} {r : Nat} (hb : W.heap[r]? = some (.map es clock)) (hk : P.underlying k = some (.int .i64)) (F : Fit P k R es clock) {ds : List (Lit × DataW H)} (hd : (es.toList.map (rg P k R)).foldr DataW.insert [] = ds) {l : List (Int × V S)}
    (hl : ∀ (j : Nat) (p : Int × V S), l[j]? = some p → ∃ d, (Lit.int .i64 p.1, d) ∈ ds ∧ ∀ v q, R v = some (d, q) → RepV E (gh0 (sig W)) W v p.2) (hall : ∀ x, x ∈ ds → ∃ (j : Nat) (p : Int × V S), l[j]? = some p ∧ x.1 = Lit.int .i64 p.1) : RepV E (gh0 (sig W)) W (.map (some r)) (.cmap l) := by
  have hkey : ∀ x ∈ es.toList, ∃ n d q, x.key = .int .i64 n ∧ rg P k R x = (.int .i64 n, d) ∧ R x.val = some (d, q) := by
    intro x hx
    obtain ⟨y, hy⟩ := F.reads x hx
    obtain ⟨n, h1, h2⟩ := keyOf_int hk (rd_key hy)
    obtain ⟨z, h3, h4⟩ := rd_val hy
    refine ⟨n, z.1, z.2, h1, ?_, h3⟩
    rw [rg_of hy, ← h2, ← h4]
  have hap : es.toList.Pairwise (fun x y => x.key ≠ y.key) := ((MapKept.stamped_iff es clock).1 F.stamped).2.2
  let ky : Nat → Int := fun i => match es[i]? with | some x => (match x.key with | .int _ n => n | _ => 0) | none => 0
  have hky : ∀ (i : Nat) (x : MapEntry), es[i]? = some x → x.key = .int .i64 (ky i) := by
    intro i x hx
    obtain ⟨n, d, q, h1, _, _⟩ := hkey x (List.mem_of_getElem? (i := i) (by simpa using hx))
    simp only [ky, hx, h1]
  have hfind : ∀ (j : Nat) (p : Int × V S), l[j]? = some p → ∃ i : Nat, ∃ x : MapEntry, es[i]? = some x ∧ x.key = .int .i64 p.1 ∧ RepV E (gh0 (sig W)) W x.val p.2 := by
    intro j p hp
    obtain ⟨d, h1, h2⟩ := hl j p hp
    rw [← hd, mem_ins] at h1
    obtain ⟨x, hx, hx2⟩ := List.mem_map.1 h1
    obtain ⟨i, hi⟩ := List.getElem?_of_mem hx
    obtain ⟨n, d', q, k1, k2, k3⟩ := hkey x hx
    rw [hx2] at k2
    cases k2
    exact ⟨i, x, by simpa using hi, k1, h2 _ q k3⟩
  let Q : Nat → Nat → Prop := fun j i => ∃ x : MapEntry, es[i]? = some x ∧ ∀ p, l[j]? = some p → x.key = Value.int .i64 p.1 ∧ RepV E (gh0 (sig W)) W x.val p.2
  have hu : ∀ i j, i < es.size → j < es.size → ky i = ky j → i = j := by
    intro i j hi hj hij
    have e1 := hky i es[i] (by simp [hi])
    have e2 := hky j es[j] (by simp [hj])
    by_cases hlt : i < j
    · exact absurd (e1.trans ((congrArg (Value.int .i64) hij).trans e2.symm)) (by have := List.pairwise_iff_getElem.1 hap i j (by simpa using hi) (by simpa using hj) hlt; simpa using this)
    · by_cases hgt : j < i
      · exact absurd (e2.trans ((congrArg (Value.int .i64) hij.symm).trans e1.symm)) (by have := List.pairwise_iff_getElem.1 hap j i (by simpa using hj) (by simpa using hi) hgt; simpa using this)
      · omega
  have hQ : ∀ j, j < l.length → Q j (Classical.epsilon (Q j)) := by
    intro j hj
    obtain ⟨i, x, h1, h2, h3⟩ := hfind j l[j] (List.getElem?_eq_getElem hj)
    have hex : ∃ i, Q j i := ⟨i, x, h1, fun p hp => by
      rw [List.getElem?_eq_getElem hj, Option.some.injEq] at hp
      subst hp
      exact ⟨h2, h3⟩⟩
    exact Classical.epsilon_spec hex
  have hix : ∀ j, j < l.length → Classical.epsilon (Q j) < es.size := fun j hj => by
    obtain ⟨x, k1, _⟩ := hQ j hj
    exact (Array.getElem?_eq_some_iff.1 k1).1
  have hkk : ∀ (j : Nat) (p : Int × V S), l[j]? = some p → ky (Classical.epsilon (Q j)) = p.1 := fun j p hp => by
    obtain ⟨x, k1, k2⟩ := hQ j (List.getElem?_eq_some_iff.1 hp).1
    have := (hky _ x k1).symm.trans (k2 p hp).1
    simpa using this
  refine .cmap r es clock l (fun j => Classical.epsilon (Q j)) ky ?_ hb hky hu hix hkk ?_ ?_
  · show 0 < sig W r
    unfold sig; rw [hb]; exact Nat.one_pos
  · intro i hi
    obtain ⟨n, d, q, h1, h2, h3⟩ := hkey es[i] (by simp)
    have hm : (Lit.int .i64 n, d) ∈ ds := by
      rw [← hd, mem_ins, ← h2]
      exact List.mem_map.2 ⟨es[i], by simp, rfl⟩
    obtain ⟨j, p, hp, hpn⟩ := hall _ hm
    have hj := (List.getElem?_eq_some_iff.1 hp).1
    refine ⟨j, hj, hu _ _ (hix j hj) hi ?_⟩
    have e1 := hky i es[i] (by simp [hi])
    rw [h1] at e1
    have e2 : n = ky i := by simpa using e1
    have e3 : n = p.1 := by simpa using hpn
    rw [hkk j p hp, ← e2, e3]
  · intro j x2 p hx2 hp
    obtain ⟨x, k1, k2⟩ := hQ j (List.getElem?_eq_some_iff.1 hp).1
    rw [k1, Option.some.injEq] at hx2
    subst hx2
    exact (k2 p hp).2
end
/-- A function's cell out of its name. -/
theorem clo_laid {E : Env S} {P : Program} {W : World} {e : TypeId} {ps rs : Array TypeId} {va : Bool} {sp : Nat → Bool} {fuel base : Nat} {b : UInt8} {r : List UInt8} {f0 : FuncId} (he : P.underlying e = some (.func ps rs va))
    (hone : ((List.range P.funcs.size).filter fun f => (P.funcs[f]?).any (·.name.toUTF8.data.toList == b :: r)) = [f0]) (v : Value) (q : List MemPlace) (h : WideElems.elemAt (funcToken P) P W base sp true fuel e v = some (.held (b :: r), q)) : RepV E (gh0 (sig W)) W v (.clo f0 [] []) := by
  have hv : v = .func (.func f0) #[] #[] := by
    unfold WideElems.elemAt at h
    split at h
    · rename_i hf
      have hc : v.cells.toList = [v] := by
        cases v <;> first | rfl | (simp [Value.formed, he] at hf)
      rw [hc] at h
      exact func_of_trod he hone h
    · cases h
  subst hv
  exact .clo f0 #[] #[] [] [] rfl rfl (fun j c v h => by simp at h) (fun j c v h => by simp at h)
/-- A law's row, where package-level variables hold what the text lays. -/
theorem law_row_laid {H : Type} {enc : TypeId × Value → H} {Kd : Checked} {C : Ctx S} (hP : C.P = Kd.prog) {f : FuncId} {fn : Func} (hfn : Kd.prog.funcs[f]? = some fn) (own : ownKnob Kd.prog.godebug = none) (noInit : Kd.prog.inits.idxOf? f = none) {s : ChangeSpec} (hv : s.vars = [])
    {ps : List TypeId} (hps : fn.params.toList = ps) (hs : ∀ (H : Type) (ds : List (DataW H)), ds.length = ps.length → s.fn H ds = { results := [.lit (.bool true)], args := ds }) {rt : TypeId} (hres : fn.resultTypes = #[rt]) (hrt : Kd.prog.underlying rt = some .bool)
    (laid : laidOutB Kd.prog = true) (hread : ps.all (fun t => Kd.prog.readableRec t && decide (t < Kd.prog.types.size)) = true) {sp : Spec S} (hS : SpecOK C f sp) (hty : ps.map C.ty = sp.args.map some) (hTab : TabOK C) (hF : EnvFill C.E) (hE : EnvOK C.E)
    {X : World → Prop} (hX : ∀ w w' : World, w.heap = w'.heap → X w → X w') (hG : ∀ W, X W → GlobOK C (sig W) W)
    (hlaw : ∀ cs, ArgsOK C.E sp.args cs → ∃ r, sp.run cs = some r ∧ sp.enc r = [⟨.bool, true⟩]) (os : Os) (started : os.Started)
    (witness : ∃ (w : World) (tape : Tape) (i : Input), w.os = os ∧ (w.forCall tape i).Shaped Kd.prog ∧ i.vars = [] ∧ Input.okWide Kd.prog (w.forCall tape i) .any w.heap.size f i ∧
      ((s.pre enc Kd.prog fn [] false (w.forCall tape i).memory i.args ∧ X (w.forCall tape i).memory) ∧ sizedMet enc Kd.prog fn (OpenSpec.ofChange s) false (w.forCall tape i).memory i.args) ∧ ({} : Assume).holds Kd.prog (lone (Frame.enter Kd.prog f i.args .normal) [] (w.forCall tape i))) :
    ReturnsInHanded {} Kd os f .any (fun w args => (s.pre enc Kd.prog fn [] false w args ∧ X w) ∧ sizedMet enc Kd.prog fn (OpenSpec.ofChange s) false w args) (s.post enc Kd.prog fn false true false false) := by
  refine returnsInHanded_of_change_and (C := Kd) (X := fun w _ => X w) (fun w w' _ hh h => hX w w' hh h) own started noInit hfn witness ?_
  intro W base args ds gs before hval hW _ _ hL _
  have hW' := hW
  obtain ⟨p, q, hA, hV, rfl, _, _⟩ := hW
  rw [hv] at hV
  obtain ⟨rfl, rfl⟩ := trodVars_none hV
  rw [hps] at hA
  rw [← hP] at hA
  obtain ⟨cs, c1, c2, c3⟩ := read_args hTab hF hE ps sp.args args.toList ds p hty hA (fun j t v a b => by
    rw [hP]; exact hval j t v (by rw [← hps] at a; simpa using a) (by simpa using b))
  obtain ⟨r, r1, r2⟩ := hlaw cs c1
  have hcalls := hS.2 (sig W) W args cs r (hG W hL) (fun b hb => sig_new b hb) ⟨by simpa using c2, fun j v c a b => c3 j v c (by simpa using a) b⟩ r1
  rw [hP] at hcalls hA
  refine hcalls.mono fun e W' he => ?_
  obtain ⟨v, σ', rfl, bel, _, _, hrep⟩ := he
  rw [r2] at hrep
  have hv' : v = .bool true := by
    simp only [encAll, encV] at hrep
    cases hrep with
    | cell h => exact Rep.bool_inv h
  subst hv'
  have hdl : ds.length = ps.length := by
    have : ∀ (ts : List TypeId) (vs : List Value) (ds : List (DataW H)) (ps : List MemPlace), DataW.TrodAll enc Kd.prog W 0 (fun _ => true) true ts vs ds ps → ds.length = ts.length := by
      intro ts
      induction ts with
      | nil => intro vs ds ps h; obtain ⟨_, rfl, _⟩ := trodAll_nil h; rfl
      | cons t ts ih => intro vs ds ps h; obtain ⟨v, vs', d, ds', p, q, rfl, rfl, rfl, _, h2⟩ := trodAll_cons h; simp [ih _ _ _ h2]
    exact this _ _ _ _ hA
  have hsd : s.fn H (ds ++ []) = { results := [.lit (.bool true)], args := ds } := by rw [List.append_nil]; exact hs H ds hdl
  refine ⟨_, rfl, ds, [], p ++ [], [], p, [], hW', ?_, ?_, ?_, bel.frame _, fun h => by cases h⟩
  · rw [hsd, hres]
    exact trodAll_mk1 (shut_bool hrt true)
  · rw [hsd, hps]
    exact shut_args laid bel ps args.toList ds p (fun t ht => by
      have := (List.all_eq_true.1 hread) t ht
      simpa using this) hA
  · rw [hsd, hv]
    exact rfl
end Go.Lv
namespace Go.Lv.Ld
set_option linter.all false
open Go Go.Lv
structure Block where
  base : Int
  pre : Int
structure Conf where
  block : Block
  held : List Int
  shards : Int
  workers : Int
  queue : Int
  tries : Int
structure Ask where
  kind : Int
  addr : Int
  addrs : List Int
structure Answer where
  err : Int
  addr : Int
  used : Bool
  addrs : List Int
  errs : List Int
structure Oq where
  ask : Ask
  answer : Answer
  phase : Int
  shard : Int
  sought : Int
  leaf : Int
  bit : Int
  word : Int
  full : Bool
  seen : List Int
  at_ : Int
  tries : Int
  item : Int
  stamp : Int
structure Call where
  client : Int
  ask : Ask
  from_ : Int
  to_ : Int
  answer : Answer
structure Event where
  kind : Int
  client : Int
  ask : Int
  item : Int
  at_ : Int
  answer : Answer
def S : Nat → Type
  | 0 => Block
  | 1 => Conf
  | 2 => Ask
  | 3 => Answer
  | 4 => Oq
  | 5 => Call
  | 6 => Event
  | _ => Unit
abbrev i64 : Ty := .int .i64
abbrev u32 : Ty := .int .u32
abbrev u64 : Ty := .int .u64
def blockT : List Ty := [u32, i64]
def confT : List Ty := [u32, i64, .slice i64, i64, i64, i64, i64]
def askT : List Ty := [i64, u32, .slice u32]
def answerT : List Ty := [i64, u32, .bool, .slice u32, .slice i64]
def opT : List Ty := askT ++ answerT ++ [i64, i64, i64, i64, i64, u64, .bool, .slice u64, i64, i64, i64, i64]
def callT : List Ty := [i64] ++ askT ++ [i64, i64] ++ answerT
def eventT : List Ty := [i64, i64, i64, i64, i64] ++ answerT
def tys : Nat → List Ty
  | 0 => blockT
  | 1 => confT
  | 2 => askT
  | 3 => answerT
  | 4 => opT
  | 5 => callT
  | 6 => eventT
  | _ => []
def askC (a : Ask) : List (Cell S) := [⟨i64, a.kind⟩, ⟨u32, a.addr⟩, ⟨.slice u32, a.addrs⟩]
def answerC (a : Answer) : List (Cell S) := [⟨i64, a.err⟩, ⟨u32, a.addr⟩, ⟨.bool, a.used⟩, ⟨.slice u32, a.addrs⟩, ⟨.slice i64, a.errs⟩]
def toC : (i : Nat) → S i → List (Cell S)
  | 0, (b : Block) => [⟨u32, b.base⟩, ⟨i64, b.pre⟩]
  | 1, (c : Conf) => [⟨u32, c.block.base⟩, ⟨i64, c.block.pre⟩, ⟨.slice i64, c.held⟩, ⟨i64, c.shards⟩, ⟨i64, c.workers⟩, ⟨i64, c.queue⟩, ⟨i64, c.tries⟩]
  | 2, (a : Ask) => askC a
  | 3, (a : Answer) => answerC a
  | 4, (o : Oq) => askC o.ask ++ answerC o.answer ++ [⟨i64, o.phase⟩, ⟨i64, o.shard⟩, ⟨i64, o.sought⟩, ⟨i64, o.leaf⟩, ⟨i64, o.bit⟩, ⟨u64, o.word⟩, ⟨.bool, o.full⟩, ⟨.slice u64, o.seen⟩, ⟨i64, o.at_⟩, ⟨i64, o.tries⟩, ⟨i64, o.item⟩, ⟨i64, o.stamp⟩]
  | 5, (c : Call) => [⟨i64, c.client⟩] ++ askC c.ask ++ [⟨i64, c.from_⟩, ⟨i64, c.to_⟩] ++ answerC c.answer
  | 6, (e : Event) => [⟨i64, e.kind⟩, ⟨i64, e.client⟩, ⟨i64, e.ask⟩, ⟨i64, e.item⟩, ⟨i64, e.at_⟩] ++ answerC e.answer
  | _, _ => []
section
variable {α : Type} (d : (t : Ty) → α → Option (den S t))
def blockO : List α → Option Block
  | [a, b] => (d u32 a).bind fun x => (d i64 b).bind fun y => some ⟨x, y⟩
  | _ => none
def askO : List α → Option Ask
  | [a, b, c] => (d i64 a).bind fun x => (d u32 b).bind fun y => (d (.slice u32) c).bind fun z => some ⟨x, y, z⟩
  | _ => none
def answerO : List α → Option Answer
  | [a, b, c, e, f] => (d i64 a).bind fun x => (d u32 b).bind fun y => (d .bool c).bind fun z => (d (.slice u32) e).bind fun u => (d (.slice i64) f).bind fun v => some ⟨x, y, z, u, v⟩
  | _ => none
def confO : List α → Option Conf
  | [a, b, c, e, f, g, h] => (blockO d [a, b]).bind fun bl => (d (.slice i64) c).bind fun x3 => (d i64 e).bind fun x4 => (d i64 f).bind fun x5 => (d i64 g).bind fun x6 => (d i64 h).bind fun x7 => some ⟨bl, x3, x4, x5, x6, x7⟩
  | _ => none
def opO : List α → Option Oq
  | [a1, a2, a3, b1, b2, b3, b4, b5, c1, c2, c3, c4, c5, c6, c7, c8, c9, c10, c11, c12] =>
    (askO d [a1, a2, a3]).bind fun a => (answerO d [b1, b2, b3, b4, b5]).bind fun b => (d i64 c1).bind fun x1 => (d i64 c2).bind fun x2 => (d i64 c3).bind fun x3 => (d i64 c4).bind fun x4 => (d i64 c5).bind fun x5 =>
    (d u64 c6).bind fun x6 => (d .bool c7).bind fun x7 => (d (.slice u64) c8).bind fun x8 => (d i64 c9).bind fun x9 => (d i64 c10).bind fun x10 => (d i64 c11).bind fun x11 => (d i64 c12).bind fun x12 =>
    some ⟨a, b, x1, x2, x3, x4, x5, x6, x7, x8, x9, x10, x11, x12⟩
  | _ => none
def callO : List α → Option Call
  | [c, a1, a2, a3, f, t, b1, b2, b3, b4, b5] => (d i64 c).bind fun x => (askO d [a1, a2, a3]).bind fun a => (d i64 f).bind fun y => (d i64 t).bind fun z => (answerO d [b1, b2, b3, b4, b5]).bind fun b => some ⟨x, a, y, z, b⟩
  | _ => none
def eventO : List α → Option Event
  | [k, c, a, i, t, b1, b2, b3, b4, b5] => (d i64 k).bind fun x1 => (d i64 c).bind fun x2 => (d i64 a).bind fun x3 => (d i64 i).bind fun x4 => (d i64 t).bind fun x5 => (answerO d [b1, b2, b3, b4, b5]).bind fun b => some ⟨x1, x2, x3, x4, x5, b⟩
  | _ => none
def ofC : (i : Nat) → List α → Option (S i)
  | 0, l => blockO d l
  | 1, l => confO d l
  | 2, l => askO d l
  | 3, l => answerO d l
  | 4, l => opO d l
  | 5, l => callO d l
  | 6, l => eventO d l
  | _, _ => none
end
def E : Env S := { tys := tys, toC := toC, ofC := fun i _ d l => ofC d i l }
end Go.Lv.Ld
namespace Go.Lv.Ld
set_option linter.all false
open Go Go.Lv
/-- Each cell is told by its value. -/
inductive Bk {α : Type} (d : (t : Ty) → α → Option (den S t)) : List α → List (Cell S) → Prop where
  | nil : Bk d [] []
  | cons {t : Ty} {x : den S t} {v : α} {vs : List α} {cs : List (Cell S)} (h : d t v = some x) (hs : Bk d vs cs) : Bk d (v :: vs) (⟨t, x⟩ :: cs)
theorem Bk.len {α : Type} {d : (t : Ty) → α → Option (den S t)} {vs : List α} {cs : List (Cell S)} (h : Bk d vs cs) : vs.length = cs.length := by
  induction h with
  | nil => rfl
  | cons h hs ih => simp [ih]
theorem Bk.get {α : Type} {d : (t : Ty) → α → Option (den S t)} {vs : List α} {cs : List (Cell S)} (h : Bk d vs cs) : ∀ (j : Nat) (v : α) (c : Cell S), vs[j]? = some v → cs[j]? = some c → d c.t v = some c.x := by
  induction h with
  | nil => intro j v c h; simp at h
  | cons h hs ih =>
    intro j v c p q
    cases j with
    | zero => simp only [List.getElem?_cons_zero, Option.some.injEq] at p q; subst p q; exact h
    | succ j => exact ih j v c p q
theorem Bk.app {α : Type} {d : (t : Ty) → α → Option (den S t)} {vs : List α} {cs : List (Cell S)} (h : Bk d vs cs) {vs' : List α} {cs' : List (Cell S)} (h' : Bk d vs' cs') : Bk d (vs ++ vs') (cs ++ cs') := by
  induction h with
  | nil => exact h'
  | cons h hs ih => exact .cons h ih
theorem bs {α β : Type} {o : Option α} {f : α → Option β} {b : β} (h : o.bind f = some b) : ∃ a, o = some a ∧ f a = some b := by
  cases o with
  | none => cases h
  | some a => exact ⟨a, rfl, h⟩
section
variable {α : Type} {d : (t : Ty) → α → Option (den S t)}
theorem blockB {vs : List α} {x : Block} (h : blockO d vs = some x) : Bk d vs [⟨u32, x.base⟩, ⟨i64, x.pre⟩] := by
  unfold blockO at h
  split at h
  · obtain ⟨a, h1, h⟩ := bs h
    obtain ⟨b, h2, h⟩ := bs h
    cases h
    exact .cons h1 (.cons h2 .nil)
  · cases h
theorem askB {vs : List α} {x : Ask} (h : askO d vs = some x) : Bk d vs (askC x) := by
  unfold askO at h
  split at h
  · obtain ⟨a, h1, h⟩ := bs h
    obtain ⟨b, h2, h⟩ := bs h
    obtain ⟨c, h3, h⟩ := bs h
    cases h
    exact .cons h1 (.cons h2 (.cons h3 .nil))
  · cases h
theorem answerB {vs : List α} {x : Answer} (h : answerO d vs = some x) : Bk d vs (answerC x) := by
  unfold answerO at h
  split at h
  · obtain ⟨a, h1, h⟩ := bs h
    obtain ⟨b, h2, h⟩ := bs h
    obtain ⟨c, h3, h⟩ := bs h
    obtain ⟨e, h4, h⟩ := bs h
    obtain ⟨f, h5, h⟩ := bs h
    cases h
    exact .cons h1 (.cons h2 (.cons h3 (.cons h4 (.cons h5 .nil))))
  · cases h
theorem confB {vs : List α} {x : Conf} (h : confO d vs = some x) : Bk d vs (toC 1 x) := by
  unfold confO at h
  split at h
  · obtain ⟨a, h1, h⟩ := bs h
    obtain ⟨x3, h3, h⟩ := bs h
    obtain ⟨x4, h4, h⟩ := bs h
    obtain ⟨x5, h5, h⟩ := bs h
    obtain ⟨x6, h6, h⟩ := bs h
    obtain ⟨x7, h7, h⟩ := bs h
    cases h
    have := blockB h1
    exact this.app (vs' := [_, _, _, _, _]) (.cons h3 (.cons h4 (.cons h5 (.cons h6 (.cons h7 .nil)))))
  · cases h
theorem opB {vs : List α} {x : Oq} (h : opO d vs = some x) : Bk d vs (toC 4 x) := by
  unfold opO at h
  split at h
  · obtain ⟨a, ha, h⟩ := bs h
    obtain ⟨b, hb, h⟩ := bs h
    obtain ⟨x1, h1, h⟩ := bs h
    obtain ⟨x2, h2, h⟩ := bs h
    obtain ⟨x3, h3, h⟩ := bs h
    obtain ⟨x4, h4, h⟩ := bs h
    obtain ⟨x5, h5, h⟩ := bs h
    obtain ⟨x6, h6, h⟩ := bs h
    obtain ⟨x7, h7, h⟩ := bs h
    obtain ⟨x8, h8, h⟩ := bs h
    obtain ⟨x9, h9, h⟩ := bs h
    obtain ⟨x10, h10, h⟩ := bs h
    obtain ⟨x11, h11, h⟩ := bs h
    obtain ⟨x12, h12, h⟩ := bs h
    cases h
    exact ((askB ha).app (answerB hb)).app (.cons h1 (.cons h2 (.cons h3 (.cons h4 (.cons h5 (.cons h6 (.cons h7 (.cons h8 (.cons h9 (.cons h10 (.cons h11 (.cons h12 .nil))))))))))))
  · cases h
theorem callB {vs : List α} {x : Call} (h : callO d vs = some x) : Bk d vs (toC 5 x) := by
  unfold callO at h
  split at h
  · obtain ⟨x1, h1, h⟩ := bs h
    obtain ⟨a, ha, h⟩ := bs h
    obtain ⟨y, h2, h⟩ := bs h
    obtain ⟨z, h3, h⟩ := bs h
    obtain ⟨b, hb, h⟩ := bs h
    cases h
    exact .cons h1 ((askB ha).app (.cons h2 (.cons h3 (answerB hb))))
  · cases h
theorem eventB {vs : List α} {x : Event} (h : eventO d vs = some x) : Bk d vs (toC 6 x) := by
  unfold eventO at h
  split at h
  · obtain ⟨x1, h1, h⟩ := bs h
    obtain ⟨x2, h2, h⟩ := bs h
    obtain ⟨x3, h3, h⟩ := bs h
    obtain ⟨x4, h4, h⟩ := bs h
    obtain ⟨x5, h5, h⟩ := bs h
    obtain ⟨b, hb, h⟩ := bs h
    cases h
    exact .cons h1 (.cons h2 (.cons h3 (.cons h4 (.cons h5 (answerB hb)))))
  · cases h
end
theorem typed (i : Nat) (x : S i) : (toC i x).map (·.t) = tys i := by
  match i, x with
  | 0, x => rfl
  | 1, x => rfl
  | 2, x => rfl
  | 3, x => rfl
  | 4, x => rfl
  | 5, x => rfl
  | 6, x => rfl
  | _ + 7, x => rfl
def isSt : Ty → Bool
  | .st _ => true
  | _ => false
theorem noSt (i : Nat) : (tys i).all (fun t => !isSt t) = true := by
  match i with
  | 0 => rfl
  | 1 => rfl
  | 2 => rfl
  | 3 => rfl
  | 4 => rfl
  | 5 => rfl
  | 6 => rfl
  | _ + 7 => rfl
theorem backB {α : Type} {d : (t : Ty) → α → Option (den S t)} (i : Nat) (vs : List α) (x : S i) (h : ofC d i vs = some x) : Bk d vs (toC i x) := by
  match i, x, h with
  | 0, x, h => exact blockB h
  | 1, x, h => exact confB h
  | 2, x, h => exact askB h
  | 3, x, h => exact answerB h
  | 4, x, h => exact opB h
  | 5, x, h => exact callB h
  | 6, x, h => exact eventB h
  | n + 7, x, h => exact absurd ((show (none : Option (S (n + 7))) = some x from h)) (by intro q; cases q)
theorem backOK (i : Nat) {α : Type} (d : (t : Ty) → α → Option (den S t)) (vs : List α) (x : S i) (h : ofC d i vs = some x) :
    vs.length = (tys i).length ∧ ∀ (j : Nat) (v : α) (c : Cell S), vs[j]? = some v → (toC i x)[j]? = some c → d c.t v = some c.x := by
  have hb : Bk d vs (toC i x) := backB i vs x h
  have h1 : (toC i x).length = ((toC i x).map (·.t)).length := by rw [List.length_map]
  rw [typed] at h1
  exact ⟨hb.len.trans h1, hb.get⟩
theorem bind_mono {α β : Type} {o o' : Option α} {f f' : α → Option β} {b : β} (h : ∀ a, o = some a → o' = some a) (hf : ∀ a, f a = some b → f' a = some b) (hb : o.bind f = some b) : o'.bind f' = some b := by
  obtain ⟨a, h1, h2⟩ := bs hb
  rw [h a h1]; exact hf a h2
set_option maxHeartbeats 4000000 in
theorem monoOK (i : Nat) {α : Type} (d d' : (t : Ty) → α → Option (den S t)) (vs : List α) (x : S i) (hd : ∀ t v y, d t v = some y → d' t v = some y) (h : ofC d i vs = some x) : ofC d' i vs = some x := by
  have hB : ∀ (l : List α) (x : Block), blockO d l = some x → blockO d' l = some x := by
    intro l x h; unfold blockO at h ⊢
    split at h
    · exact bind_mono (hd _ _) (fun _ => bind_mono (hd _ _) (fun _ => id)) h
    · cases h
  have hA : ∀ (l : List α) (x : Ask), askO d l = some x → askO d' l = some x := by
    intro l x h; unfold askO at h ⊢
    split at h
    · exact bind_mono (hd _ _) (fun _ => bind_mono (hd _ _) (fun _ => bind_mono (hd _ _) (fun _ => id))) h
    · cases h
  have hN : ∀ (l : List α) (x : Answer), answerO d l = some x → answerO d' l = some x := by
    intro l x h; unfold answerO at h ⊢
    split at h
    · exact bind_mono (hd _ _) (fun _ => bind_mono (hd _ _) (fun _ => bind_mono (hd _ _) (fun _ => bind_mono (hd _ _) (fun _ => bind_mono (hd _ _) (fun _ => id))))) h
    · cases h
  match i, x, h with
  | 0, x, h => exact hB vs x h
  | 1, x, h =>
    show confO d' vs = some x
    have h : confO d vs = some x := h
    unfold confO at h ⊢
    split at h
    · exact bind_mono (fun _ => hB _ _) (fun _ => bind_mono (hd _ _) (fun _ => bind_mono (hd _ _) (fun _ => bind_mono (hd _ _) (fun _ => bind_mono (hd _ _) (fun _ => bind_mono (hd _ _) (fun _ => id)))))) h
    · cases h
  | 2, x, h => exact hA vs x h
  | 3, x, h => exact hN vs x h
  | 4, x, h =>
    show opO d' vs = some x
    have h : opO d vs = some x := h
    unfold opO at h ⊢
    split at h
    · exact bind_mono (fun _ => hA _ _) (fun _ => bind_mono (fun _ => hN _ _) (fun _ => bind_mono (hd _ _) (fun _ => bind_mono (hd _ _) (fun _ => bind_mono (hd _ _) (fun _ => bind_mono (hd _ _) (fun _ => bind_mono (hd _ _) (fun _ => bind_mono (hd _ _) (fun _ => bind_mono (hd _ _) (fun _ => bind_mono (hd _ _) (fun _ => bind_mono (hd _ _) (fun _ => bind_mono (hd _ _) (fun _ => bind_mono (hd _ _) (fun _ => bind_mono (hd _ _) (fun _ => id)))))))))))))) h
    · cases h
  | 5, x, h =>
    show callO d' vs = some x
    have h : callO d vs = some x := h
    unfold callO at h ⊢
    split at h
    · exact bind_mono (hd _ _) (fun _ => bind_mono (fun _ => hA _ _) (fun _ => bind_mono (hd _ _) (fun _ => bind_mono (hd _ _) (fun _ => bind_mono (fun _ => hN _ _) (fun _ => id))))) h
    · cases h
  | 6, x, h =>
    show eventO d' vs = some x
    have h : eventO d vs = some x := h
    unfold eventO at h ⊢
    split at h
    · exact bind_mono (hd _ _) (fun _ => bind_mono (hd _ _) (fun _ => bind_mono (hd _ _) (fun _ => bind_mono (hd _ _) (fun _ => bind_mono (hd _ _) (fun _ => bind_mono (fun _ => hN _ _) (fun _ => id)))))) h
    · cases h
  | (n + 7), x, h => exact nomatch (show (none : Option (S (n + 7))) = some x from h)
theorem envOK : EnvOK E where
  mono i α d d' vs x hd h := monoOK i d d' vs x hd h
  typed := typed
  leaf i t h n := by
    have := (List.all_eq_true.1 (noSt i)) t h
    intro e
    rw [e] at this
    cases this
  back i {α} d vs x h := backOK i d vs x h
theorem cut {t : Ty} {ts : List Ty} {cells : List (Cell S)} (h : cells.map (·.t) = t :: ts) : ∃ (x : den S t) (r : List (Cell S)), cells = ⟨t, x⟩ :: r ∧ r.map (·.t) = ts := by
  cases cells with
  | nil => cases h
  | cons c r =>
    simp only [List.map_cons, List.cons.injEq] at h
    obtain ⟨rfl, h⟩ := h
    exact ⟨c.x, r, rfl, h⟩
theorem cutN {cells : List (Cell S)} (h : cells.map (·.t) = []) : cells = [] := by simpa using h
theorem envFill : EnvFill E := by
  intro i cells h
  match i, h with
  | 0, h =>
    obtain ⟨a, r1, e1, h1⟩ := cut h
    obtain ⟨b, r2, e2, h2⟩ := cut h1
    have e0 := cutN h2
    subst e0
    subst e2
    subst e1
    exact ⟨(⟨a, b⟩ : Block), rfl⟩
  | 1, h =>
    obtain ⟨a, r1, e1, h1⟩ := cut h
    obtain ⟨b, r2, e2, h2⟩ := cut h1
    obtain ⟨c, r3, e3, h3⟩ := cut h2
    obtain ⟨d, r4, e4, h4⟩ := cut h3
    obtain ⟨e, r5, e5, h5⟩ := cut h4
    obtain ⟨f, r6, e6, h6⟩ := cut h5
    obtain ⟨g, r7, e7, h7⟩ := cut h6
    have e0 := cutN h7
    subst e0
    subst e7
    subst e6
    subst e5
    subst e4
    subst e3
    subst e2
    subst e1
    exact ⟨(⟨⟨a, b⟩, c, d, e, f, g⟩ : Conf), rfl⟩
  | 2, h =>
    obtain ⟨a, r1, e1, h1⟩ := cut h
    obtain ⟨b, r2, e2, h2⟩ := cut h1
    obtain ⟨c, r3, e3, h3⟩ := cut h2
    have e0 := cutN h3
    subst e0
    subst e3
    subst e2
    subst e1
    exact ⟨(⟨a, b, c⟩ : Ask), rfl⟩
  | 3, h =>
    obtain ⟨a, r1, e1, h1⟩ := cut h
    obtain ⟨b, r2, e2, h2⟩ := cut h1
    obtain ⟨c, r3, e3, h3⟩ := cut h2
    obtain ⟨d, r4, e4, h4⟩ := cut h3
    obtain ⟨e, r5, e5, h5⟩ := cut h4
    have e0 := cutN h5
    subst e0
    subst e5
    subst e4
    subst e3
    subst e2
    subst e1
    exact ⟨(⟨a, b, c, d, e⟩ : Answer), rfl⟩
  | 4, h =>
    obtain ⟨a1, r1, e1, h1⟩ := cut h
    obtain ⟨a2, r2, e2, h2⟩ := cut h1
    obtain ⟨a3, r3, e3, h3⟩ := cut h2
    obtain ⟨b1, r4, e4, h4⟩ := cut h3
    obtain ⟨b2, r5, e5, h5⟩ := cut h4
    obtain ⟨b3, r6, e6, h6⟩ := cut h5
    obtain ⟨b4, r7, e7, h7⟩ := cut h6
    obtain ⟨b5, r8, e8, h8⟩ := cut h7
    obtain ⟨c1, r9, e9, h9⟩ := cut h8
    obtain ⟨c2, r10, e10, h10⟩ := cut h9
    obtain ⟨c3, r11, e11, h11⟩ := cut h10
    obtain ⟨c4, r12, e12, h12⟩ := cut h11
    obtain ⟨c5, r13, e13, h13⟩ := cut h12
    obtain ⟨c6, r14, e14, h14⟩ := cut h13
    obtain ⟨c7, r15, e15, h15⟩ := cut h14
    obtain ⟨c8, r16, e16, h16⟩ := cut h15
    obtain ⟨c9, r17, e17, h17⟩ := cut h16
    obtain ⟨c10, r18, e18, h18⟩ := cut h17
    obtain ⟨c11, r19, e19, h19⟩ := cut h18
    obtain ⟨c12, r20, e20, h20⟩ := cut h19
    have e0 := cutN h20
    subst e0
    subst e20
    subst e19
    subst e18
    subst e17
    subst e16
    subst e15
    subst e14
    subst e13
    subst e12
    subst e11
    subst e10
    subst e9
    subst e8
    subst e7
    subst e6
    subst e5
    subst e4
    subst e3
    subst e2
    subst e1
    exact ⟨(⟨⟨a1, a2, a3⟩, ⟨b1, b2, b3, b4, b5⟩, c1, c2, c3, c4, c5, c6, c7, c8, c9, c10, c11, c12⟩ : Oq), rfl⟩
  | 5, h =>
    obtain ⟨a, r1, e1, h1⟩ := cut h
    obtain ⟨a1, r2, e2, h2⟩ := cut h1
    obtain ⟨a2, r3, e3, h3⟩ := cut h2
    obtain ⟨a3, r4, e4, h4⟩ := cut h3
    obtain ⟨f, r5, e5, h5⟩ := cut h4
    obtain ⟨t, r6, e6, h6⟩ := cut h5
    obtain ⟨b1, r7, e7, h7⟩ := cut h6
    obtain ⟨b2, r8, e8, h8⟩ := cut h7
    obtain ⟨b3, r9, e9, h9⟩ := cut h8
    obtain ⟨b4, r10, e10, h10⟩ := cut h9
    obtain ⟨b5, r11, e11, h11⟩ := cut h10
    have e0 := cutN h11
    subst e0
    subst e11
    subst e10
    subst e9
    subst e8
    subst e7
    subst e6
    subst e5
    subst e4
    subst e3
    subst e2
    subst e1
    exact ⟨(⟨a, ⟨a1, a2, a3⟩, f, t, ⟨b1, b2, b3, b4, b5⟩⟩ : Call), rfl⟩
  | 6, h =>
    obtain ⟨a1, r1, e1, h1⟩ := cut h
    obtain ⟨a2, r2, e2, h2⟩ := cut h1
    obtain ⟨a3, r3, e3, h3⟩ := cut h2
    obtain ⟨a4, r4, e4, h4⟩ := cut h3
    obtain ⟨a5, r5, e5, h5⟩ := cut h4
    obtain ⟨b1, r6, e6, h6⟩ := cut h5
    obtain ⟨b2, r7, e7, h7⟩ := cut h6
    obtain ⟨b3, r8, e8, h8⟩ := cut h7
    obtain ⟨b4, r9, e9, h9⟩ := cut h8
    obtain ⟨b5, r10, e10, h10⟩ := cut h9
    have e0 := cutN h10
    subst e0
    subst e10
    subst e9
    subst e8
    subst e7
    subst e6
    subst e5
    subst e4
    subst e3
    subst e2
    subst e1
    exact ⟨(⟨a1, a2, a3, a4, a5, ⟨b1, b2, b3, b4, b5⟩⟩ : Event), rfl⟩
  | _ + 7, h => exact ⟨(() : Unit), (cutN h).symm⟩
end Go.Lv.Ld
namespace Go.Lv
set_option linter.all false
open Go
variable {S : Nat → Type}
def res1 (t : Ty) (cs : List (Cell S)) : Option (den S t) := match cs with | [c] => c.as t | _ => none
def res2 (t u : Ty) (cs : List (Cell S)) : Option (den S t × den S u) := match cs with | [c, d] => (c.as t).bind fun x => (d.as u).bind fun y => some (x, y) | _ => none
def enc1 (t : Ty) : den S t → List (Cell S) := fun x => [⟨t, x⟩]
def enc2 (t u : Ty) : den S t × den S u → List (Cell S) := fun p => [⟨t, p.1⟩, ⟨u, p.2⟩]
theorem as_inv {c : Cell S} {t : Ty} {x : den S t} (h : c.as t = some x) : c = ⟨t, x⟩ := by
  obtain ⟨u, y⟩ := c
  unfold Cell.as at h
  split at h
  · rename_i e
    simp only at e
    subst e
    simp only [Option.some.injEq] at h
    rw [h]
  · cases h
theorem bsome {α β : Type} {o : Option α} {f : α → Option β} {b : β} (h : o.bind f = some b) : ∃ a, o = some a ∧ f a = some b := by
  cases o with
  | none => cases h
  | some a => exact ⟨a, rfl, h⟩
theorem de1 (t : Ty) (cs : List (Cell S)) (r : den S t) (h : res1 t cs = some r) : cs = enc1 t r := by
  unfold res1 at h; split at h
  · rw [as_inv h]; rfl
  · cases h
theorem de2 (t u : Ty) (cs : List (Cell S)) (r : den S t × den S u) (h : res2 t u cs = some r) : cs = enc2 t u r := by
  unfold res2 at h; split at h
  · obtain ⟨x, h1, h⟩ := bsome h
    obtain ⟨y, h2, h⟩ := bsome h
    cases h
    rw [as_inv h1, as_inv h2]; rfl
  · cases h
section
variable {R : Type}
def run0 (F : Option R) : List (Cell S) → Option R
  | [] => F
  | _ => none
def run1 (a : Ty) (F : den S a → Option R) : List (Cell S) → Option R
  | [x] => (x.as a).bind F
  | _ => none
def run2 (a b : Ty) (F : den S a → den S b → Option R) : List (Cell S) → Option R
  | [x, y] => (x.as a).bind fun p => (y.as b).bind fun q => F p q
  | _ => none
def run3 (a b c : Ty) (F : den S a → den S b → den S c → Option R) : List (Cell S) → Option R
  | [x, y, z] => (x.as a).bind fun p => (y.as b).bind fun q => (z.as c).bind fun r => F p q r
  | _ => none
def run4 (a b c d : Ty) (F : den S a → den S b → den S c → den S d → Option R) : List (Cell S) → Option R
  | [x, y, z, u] => (x.as a).bind fun p => (y.as b).bind fun q => (z.as c).bind fun r => (u.as d).bind fun s => F p q r s
  | _ => none
theorem inv0 {F : Option R} {cs : List (Cell S)} {r : R} (h : run0 F cs = some r) : cs = [] ∧ F = some r := by
  unfold run0 at h; split at h
  · exact ⟨rfl, h⟩
  · cases h
theorem inv1 {a : Ty} {F : den S a → Option R} {cs : List (Cell S)} {r : R} (h : run1 a F cs = some r) : ∃ p, cs = [⟨a, p⟩] ∧ F p = some r := by
  unfold run1 at h; split at h
  · obtain ⟨p, h1, h⟩ := bsome h
    exact ⟨p, by rw [as_inv h1], h⟩
  · cases h
theorem inv2 {a b : Ty} {F : den S a → den S b → Option R} {cs : List (Cell S)} {r : R} (h : run2 a b F cs = some r) : ∃ p q, cs = [⟨a, p⟩, ⟨b, q⟩] ∧ F p q = some r := by
  unfold run2 at h; split at h
  · obtain ⟨p, h1, h⟩ := bsome h
    obtain ⟨q, h2, h⟩ := bsome h
    exact ⟨p, q, by rw [as_inv h1, as_inv h2], h⟩
  · cases h
theorem inv3 {a b c : Ty} {F : den S a → den S b → den S c → Option R} {cs : List (Cell S)} {r : R} (h : run3 a b c F cs = some r) : ∃ p q s, cs = [⟨a, p⟩, ⟨b, q⟩, ⟨c, s⟩] ∧ F p q s = some r := by
  unfold run3 at h; split at h
  · obtain ⟨p, h1, h⟩ := bsome h
    obtain ⟨q, h2, h⟩ := bsome h
    obtain ⟨s, h3, h⟩ := bsome h
    exact ⟨p, q, s, by rw [as_inv h1, as_inv h2, as_inv h3], h⟩
  · cases h
theorem inv4 {a b c d : Ty} {F : den S a → den S b → den S c → den S d → Option R} {cs : List (Cell S)} {r : R} (h : run4 a b c d F cs = some r) : ∃ p q s t, cs = [⟨a, p⟩, ⟨b, q⟩, ⟨c, s⟩, ⟨d, t⟩] ∧ F p q s t = some r := by
  unfold run4 at h; split at h
  · obtain ⟨p, h1, h⟩ := bsome h
    obtain ⟨q, h2, h⟩ := bsome h
    obtain ⟨s, h3, h⟩ := bsome h
    obtain ⟨t, h4, h⟩ := bsome h
    exact ⟨p, q, s, t, by rw [as_inv h1, as_inv h2, as_inv h3, as_inv h4], h⟩
  · cases h
end
/-! The tables of a program. -/
def tyL : List (Nat × Ty) → Nat → Option Ty
  | [], _ => none
  | p :: r, t => bif Nat.beq t p.1 then some p.2 else tyL r t
theorem tyL_mem : ∀ {l : List (Nat × Ty)} {t : Nat} {T : Ty}, tyL l t = some T → (t, T) ∈ l
  | [], _, _, h => by cases h
  | p :: r, t, T, h => by
    unfold tyL at h
    cases hb : Nat.beq t p.1 with
    | true => rw [hb] at h; simp only [cond_true, Option.some.injEq] at h; have := Nat.eq_of_beq_eq_true hb; subst this; subst h; exact List.mem_cons_self
    | false => rw [hb] at h; exact List.mem_cons_of_mem _ (tyL_mem h)
def spL : List (Nat × Spec S) → Nat → Option (Spec S)
  | [], _ => none
  | p :: r, t => bif Nat.beq t p.1 then some p.2 else spL r t
theorem spL_mem : ∀ {l : List (Nat × Spec S)} {t : Nat} {T : Spec S}, spL l t = some T → (t, T) ∈ l
  | [], _, _, h => by cases h
  | p :: r, t, T, h => by
    unfold spL at h
    cases hb : Nat.beq t p.1 with
    | true => rw [hb] at h; simp only [cond_true, Option.some.injEq] at h; have := Nat.eq_of_beq_eq_true hb; subst this; subst h; exact List.mem_cons_self
    | false => rw [hb] at h; exact List.mem_cons_of_mem _ (spL_mem h)
def inL : List Nat → Nat → Bool
  | [], _ => false
  | p :: r, t => bif Nat.beq t p then true else inL r t
theorem inL_mem : ∀ {l : List Nat} {t : Nat}, inL l t = true → t ∈ l
  | [], _, h => by cases h
  | p :: r, t, h => by
    unfold inL at h
    cases hb : Nat.beq t p with
    | true => have := Nat.eq_of_beq_eq_true hb; subst this; exact List.mem_cons_self
    | false => rw [hb] at h; exact List.mem_cons_of_mem _ (inL_mem h)
def tyB (P : Program) (E : Env S) (p : Nat × Ty) : Bool := match P.info? p.1 with
  | some i => (match i.zero with
    | some z => z.cells.size == i.size
    | none => false) && i.size == tsize E p.2 && decide (0 < i.size) && decide (i.bytes ≤ 1024)
  | none => false
def tabB (P : Program) (E : Env S) (ty : TypeId → Option Ty) (p : Nat × Ty) : Bool :=
  decide (flat P ty 12 p.1 = some (cellTys E p.2)) && decide (0 < tsize E p.2) && (isStr P p.1 == isStT p.2)
theorem tyOK_of {C : Ctx S} {l : List (Nat × Ty)} (hl : C.ty = tyL l) (h : l.all (tyB C.P C.E) = true) : TyOK C := by
  intro e T ht
  rw [hl] at ht
  have := (List.all_eq_true.1 h) _ (tyL_mem ht)
  unfold tyB at this
  simp only at this
  cases hi : C.P.info? e with
  | none => rw [hi] at this; cases this
  | some i =>
    rw [hi] at this
    simp only [Bool.and_eq_true] at this
    obtain ⟨⟨⟨h1, h2⟩, h3⟩, h4⟩ := this
    cases hz : i.zero with
    | none => rw [hz] at h1; cases h1
    | some z =>
      rw [hz] at h1
      exact ⟨i, z, rfl, by simpa using h2, hz, by simpa using h1, by simpa using h3, by simpa using h4⟩
theorem tabOK_of {C : Ctx S} {l : List (Nat × Ty)} (hl : C.ty = tyL l) (h : l.all (tabB C.P C.E C.ty) = true) : TabOK C := by
  intro t T ht
  rw [hl] at ht
  have := (List.all_eq_true.1 h) _ (tyL_mem ht)
  unfold tabB at this
  simp only [Bool.and_eq_true] at this
  obtain ⟨⟨h1, h2⟩, h3⟩ := this
  exact ⟨⟨12, by simpa using h1⟩, by simpa using h2, by simpa using h3⟩
theorem SpecOK.re {C C' : Ctx S} (hP : C'.P = C.P) (hE : C'.E = C.E) (hG : C'.G = C.G) {f : FuncId} {sp : Spec S} (h : SpecOK C f sp) : SpecOK C' f sp := by
  unfold SpecOK GlobOK at h ⊢
  rw [hP, hE, hG]; exact h
end Go.Lv
namespace Go.Lv
set_option linter.all false
open Go Go.RowKit
variable {S : Nat → Type}
/-! What a state is turned to at a loop's head. -/
section
variable (m : Mem S) (kp : Nat → Bool)
def conv0 : V S → V S
  | .own id g => bif kp id then (match m[id]? with
    | some (.arr _ _ _ g' _) => bif Nat.beq g g' then .own id 0 else .undef
    | _ => .undef) else .undef
  | .ptr id off => bif kp id then (match m[id]? with
    | some (.box _ _) => .ptr id off
    | _ => .undef) else .undef
  | .cell t x => .cell t x
  | .full t l => .full t l
  | .nilS => .nilS
  | .mapr id => bif kp id then (match m[id]? with
    | some (.map _ _ _) => .mapr id
    | _ => .undef) else .undef
  | _ => .undef
def convL : V S → V S
  | .agg cs => .agg (cs.map (conv0 m kp))
  | .clo f a b => .clo f (a.map (conv0 m kp)) (b.map (conv0 m kp))
  | v => conv0 m kp v
def convOb (i : Nat) : Ob S → Ob S
  | .box cs fz => .box (bif kp i then cs.map (convL m kp) else cs.map fun _ => .undef) fz
  | .arr e t l _ fz => bif kp i then .arr e t l 0 fz else .arr e t [] 0 fz
  | .map k v l => bif kp i then .map k v l else .arr 0 .bool [] 0 true
def convM : Nat → Mem S → Mem S
  | _, [] => []
  | i, o :: r => convOb m kp i o :: convM (i + 1) r
def convT (sl : Nat → Bool) : Nat → List (V S) → List (V S)
  | _, [] => []
  | i, v :: r => (bif sl i then convL m kp v else .undef) :: convT sl (i + 1) r
end
theorem convM_get (m : Mem S) (kp : Nat → Bool) : ∀ (l : Mem S) (i j : Nat), (convM m kp i l)[j]? = (l[j]?).map (convOb m kp (i + j))
  | [], i, j => by simp [convM]
  | o :: r, i, 0 => by simp [convM]
  | o :: r, i, j + 1 => by simp only [convM, List.getElem?_cons_succ]; rw [convM_get m kp r (i + 1) j]; congr 2; omega
theorem convM_len (m : Mem S) (kp : Nat → Bool) : ∀ (l : Mem S) (i : Nat), (convM m kp i l).length = l.length
  | [], _ => rfl
  | o :: r, i => by simp [convM, convM_len m kp r (i + 1)]
theorem convT_get (m : Mem S) (kp sl : Nat → Bool) : ∀ (l : List (V S)) (i j : Nat), (convT m kp sl i l)[j]? = (l[j]?).map fun v => bif sl (i + j) then convL m kp v else .undef
  | [], i, j => by simp [convT]
  | o :: r, i, 0 => by simp [convT]
  | o :: r, i, j + 1 => by simp only [convT, List.getElem?_cons_succ]; rw [convT_get m kp sl r (i + 1) j]; congr 2; funext v; rw [show i + 1 + j = i + (j + 1) by omega]
theorem convT_len (m : Mem S) (kp sl : Nat → Bool) : ∀ (l : List (V S)) (i : Nat), (convT m kp sl i l).length = l.length
  | [], _ => rfl
  | o :: r, i => by simp [convT, convT_len m kp sl r (i + 1)]
section
variable {C : Ctx S} {K : Gh} {w : World} {B : Nat} {m : Mem S} {kp : Nat → Bool}
def boxAt (m : Mem S) (i : Nat) : Bool := match m[i]? with
  | some (.box _ _) => true
  | _ => false
def mapObj (m : Mem S) (i : Nat) : Bool := match m[i]? with
  | some (.map _ _ _) => true
  | _ => false
def Gh.turn (K : Gh) (m : Mem S) (objs : Nat) (kp : Nat → Bool) : Gh :=
  { n := min objs m.length, ι := K.ι, hv := fun i => bif kp i then K.hv i else .slice none 0 0, gen := fun _ => 0, esz := fun i => bif mapObj m i then 1 else K.esz i, live := fun i => bif kp i || boxAt m i then K.live i else false, σ := K.σ, σ0 := K.σ0 }
theorem conv0_rep (h : RelM C K w B m) {objs : Nat} (hk : ∀ i, kp i = true → i < objs) {v : Value} {x : V S} (hv : RepV C.E K w v x) : RepV C.E (K.turn m objs kp) w v (conv0 m kp x) := by
  cases hv with
  | own id g v hn hg hp hh =>
    simp only [conv0]
    cases hkp : kp id with
    | false => exact .undef _
    | true =>
      simp only [cond_true]
      split
      · rename_i e t l g' fz hm
        cases hb : Nat.beq g g' with
        | false => exact .undef _
        | true =>
          have := Nat.eq_of_beq_eq_true hb
          subst this
          obtain ⟨h1, _, _⟩ := h.ob id _ hm
          refine .own id 0 v ?_ (Nat.zero_le _) hp fun _ => ?_
          · simp only [Gh.turn]; exact Nat.lt_min.2 ⟨hk id hkp, (List.getElem?_eq_some_iff.1 hm).1⟩
          · simp only [Gh.turn, hkp, cond_true]; exact hh h1
      · exact .undef _
  | ptr id off v hn hp hh =>
    simp only [conv0]
    cases hkp : kp id with
    | false => exact .undef _
    | true =>
      simp only [cond_true]
      split
      · rename_i cs fz hm
        obtain ⟨h1, _⟩ := h.ob id _ hm
        exact .ptr id off v (by simp only [Gh.turn]; exact Nat.lt_min.2 ⟨hk id hkp, (List.getElem?_eq_some_iff.1 hm).1⟩) hp fun _ => hh h1
      · exact .undef _
  | cell h => exact .cell h
  | full h => exact .full h
  | nilS a => exact .nilS a
  | agg => exact .undef _
  | eptr => exact .undef _
  | ro => exact .undef _
  | clo => exact .undef _
  | tup => exact .undef _
  | cmap => exact .undef _
  | ifc => exact .undef _
  | mapr id v hn hp hh =>
    simp only [conv0]
    cases hkp : kp id with
    | false => exact .undef _
    | true =>
      simp only [cond_true]
      split
      · rename_i kt vt l hm
        obtain ⟨h1, _⟩ := h.ob id _ hm
        exact .mapr id v (by simp only [Gh.turn]; exact Nat.lt_min.2 ⟨hk id hkp, (List.getElem?_eq_some_iff.1 hm).1⟩) hp fun _ => hh h1
      · exact .undef _
  | undef => exact .undef _
  | known => exact .undef _
theorem convL_rep (h : RelM C K w B m) {objs : Nat} (hk : ∀ i, kp i = true → i < objs) {v : Value} {x : V S} (hv : RepV C.E K w v x) : RepV C.E (K.turn m objs kp) w v (convL m kp x) := by
  have many : ∀ (cs : Array Value) (vs : List (V S)), (∀ (j : Nat) (c : Value) (y : V S), cs[j]? = some c → vs[j]? = some y → RepV C.E K w c y) →
      ∀ (j : Nat) (c : Value) (y : V S), cs[j]? = some c → (vs.map (conv0 m kp))[j]? = some y → RepV C.E (K.turn m objs kp) w c y := by
    intro cs vs hj j c y p q
    rw [List.getElem?_map] at q
    cases hy : vs[j]? with
    | none => rw [hy] at q; cases q
    | some z =>
      rw [hy] at q
      simp only [Option.map_some, Option.some.injEq] at q
      subst q
      exact conv0_rep h hk (hj j c z p hy)
  cases hv with
  | agg cs vs hs hj => exact .agg cs _ (by simpa using hs) (many cs vs hj)
  | clo f a b a' b' h1 h2 hf hc => exact .clo f a b _ _ (by simpa using h1) (by simpa using h2) (many a a' hf) (many b b' hc)
  | own id g v hn hg hp hh => exact conv0_rep h hk (.own id g v hn hg hp hh)
  | ptr id off v hn hp hh => exact conv0_rep h hk (.ptr id off v hn hp hh)
  | cell h => exact .cell h
  | full h => exact .full h
  | nilS a => exact .nilS a
  | eptr => exact .undef _
  | ro => exact .undef _
  | tup => exact .undef _
  | cmap => exact .undef _
  | ifc => exact .undef _
  | mapr id v hn hp hh => exact conv0_rep h hk (.mapr id v hn hp hh)
  | undef => exact .undef _
  | known => exact .undef _
theorem turn_rel (h : RelM C K w B m) {objs : Nat} (hk : ∀ i, kp i = true → i < objs) : RelM C (K.turn m objs kp) w B (convM m kp 0 (m.take objs)) := by
  have hlive : ∀ i, (K.turn m objs kp).live i = true → K.live i = true := by
    intro i hi
    simp only [Gh.turn] at hi
    cases hb : (kp i || boxAt m i) with
    | true => rw [hb] at hi; exact hi
    | false => rw [hb] at hi; cases hi
  refine ⟨?_, fun i o hi => ?_, fun i j hi hj li lj e => ?_, h.new, h.glob, h.base, h.old⟩
  · rw [convM_len, List.length_take]; rfl
  · rw [convM_get, Nat.zero_add] at hi
    cases ho : (m.take objs)[i]? with
    | none => rw [ho] at hi; cases hi
    | some o0 =>
      rw [ho] at hi
      simp only [Option.map_some, Option.some.injEq] at hi
      subst hi
      have hm : m[i]? = some o0 := by
        rw [List.getElem?_take] at ho
        split at ho
        · exact ho
        · cases ho
      have hob := h.ob i o0 hm
      cases o0 with
      | box cs fz =>
        obtain ⟨h0, hl, c, e, h1, h2, h3, h4, h5⟩ := hob
        have hbox : boxAt m i = true := by simp [boxAt, hm]
        refine ⟨rfl, by simp only [Gh.turn, hbox, Bool.or_true, cond_true]; exact hl, c, e, h1, ?_, fun j v x p q => ?_, h4, h5⟩
        · cases kp i <;> simpa using h2
        · cases hkp : kp i with
          | false =>
            rw [hkp] at q
            simp only [cond_false, List.getElem?_map] at q
            cases hcs : cs[j]? with
            | none => rw [hcs] at q; cases q
            | some z => rw [hcs] at q; simp only [Option.map_some, Option.some.injEq] at q; subst q; exact .undef _
          | true =>
            rw [hkp] at q
            simp only [cond_true, List.getElem?_map] at q
            cases hcs : cs[j]? with
            | none => rw [hcs] at q; cases q
            | some z => rw [hcs] at q; simp only [Option.map_some, Option.some.injEq] at q; subst q; exact convL_rep h hk (h3 j v z p hcs)
      | arr e t l g fz =>
        obtain ⟨h0, h1, h2⟩ := hob
        simp only [convOb]
        cases hkp : kp i with
        | true =>
          have hmap : mapObj m i = false := by simp [mapObj, hm]
          refine ⟨rfl, by simp only [Gh.turn, hmap, cond_false]; exact h1, ?_⟩
          simp only [Gh.turn, hkp, Bool.true_or, cond_true]
          exact h2
        | false =>
          have hbox : boxAt m i = false := by simp [boxAt, hm]
          have hmap : mapObj m i = false := by simp [mapObj, hm]
          refine ⟨rfl, by simp only [Gh.turn, hmap, cond_false]; exact h1, .inl ⟨by simp only [Gh.turn, hkp, hbox, Bool.or_false, cond_false], rfl, none, by simp only [Gh.turn, hkp, cond_false]⟩⟩
      | map kt vt l =>
        obtain ⟨h0, hl, es, clk, h1, h2, h3, h4⟩ := hob
        simp only [convOb]
        cases hkp : kp i with
        | true => exact ⟨rfl, by simp only [Gh.turn, hkp, Bool.true_or, cond_true]; exact hl, es, clk, h1, h2, h3, h4⟩
        | false =>
          have hbox : boxAt m i = false := by simp [boxAt, hm]
          have hmap : mapObj m i = true := by simp [mapObj, hm]
          exact ⟨rfl, by simp only [Gh.turn, hmap, cond_true]; rfl, .inl ⟨by simp only [Gh.turn, hkp, hbox, Bool.or_false, cond_false], rfl, none, by simp only [Gh.turn, hkp, cond_false]⟩⟩
  · have hn : (K.turn m objs kp).n ≤ K.n := by simp only [Gh.turn, h.n]; exact Nat.min_le_right _ _
    exact h.inj i j (Nat.lt_of_lt_of_le hi hn) (Nat.lt_of_lt_of_le hj hn) (hlive i li) (hlive j lj) e
end
def frzB : Mem S → List Nat → Mem S
  | m, [] => m
  | m, id :: r => frzB (match m[id]? with | some (.box cs _) => m.set id (.box cs true) | _ => m) r
section
variable {C : Ctx S} {K : Gh} {w : World} {B : Nat} {m : Mem S}
theorem frzB1 (h : RelM C K w B m) {id : Nat} {cs : List (V S)} {fz : Bool} (hm : m[id]? = some (.box cs fz)) : ∃ K', Ext K w K' w ∧ Same K K' ∧ RelM C K' w B (m.set id (.box cs true)) := by
  have hlt : id < m.length := (List.getElem?_eq_some_iff.1 hm).1
  have hin : id < K.n := h.n ▸ hlt
  obtain ⟨hg, hlive, c, te, p1, p2, p3, p4, p5⟩ := h.ob id _ hm
  let K' : Gh := { K with σ := fun b => if b = K.ι id then max (K.σ b) c.size else K.σ b }
  have hx' : Ext K w K' w := ⟨Nat.le_refl _, fun i _ => ⟨Nat.le_refl _, fun _ => ⟨rfl, rfl, rfl⟩⟩, fun b => by simp only [K']; split <;> omega, fun _ _ _ => rfl, fun _ _ _ q => keeps.of q, .inr rfl⟩
  refine ⟨K', hx', ⟨rfl, rfl, rfl, rfl, rfl, rfl, rfl⟩, ?_⟩
  refine h.set hin hx' rfl (fun j _ _ => ⟨rfl, rfl, rfl, rfl, rfl⟩) (fun b => ?_) (fun k _ _ => rfl) (Nat.le_refl _) (fun _ => .inl ⟨hlive, rfl⟩) (fun b hb => ?_) ?_
  · by_cases q : b = K.ι id
    · cases fz with
      | false => exact .inr ⟨hlive, q, by rw [q]; exact (p4 rfl).2⟩
      | true => left; have := p5 rfl; simp only [K', q, if_true]; omega
    · left; simp only [K', q, if_false]
  · have : b ≠ K.ι id := by have := h.blk hin hlive; omega
    simp only [K', this, if_false]; exact h.new b hb
  · exact ⟨hg, hlive, c, te, p1, p2, fun j v x q1 q2 => (p3 j v x q1 q2).mono hx', fun q => (by cases q), fun _ => by simp only [K', if_true]; exact Nat.le_max_right _ _⟩
theorem frzB_ok : ∀ (ids : List Nat) {K : Gh} {m : Mem S}, RelM C K w B m → ∃ K', Ext K w K' w ∧ Same K K' ∧ RelM C K' w B (frzB m ids) ∧ ∀ id cs fz, m[id]? = some (.box cs fz) → ∃ fz', (frzB m ids)[id]? = some (.box cs fz') ∧ (fz = true → fz' = true) ∧ (id ∈ ids → fz' = true)
  | [], K, m, h => ⟨K, .refl K w, ⟨rfl, rfl, rfl, rfl, rfl, rfl, rfl⟩, h, fun id cs fz hm => ⟨fz, hm, fun e => e, fun hid => by cases hid⟩⟩
  | i :: r, K, m, h => by
    have step : ∃ K1, Ext K w K1 w ∧ Same K K1 ∧ RelM C K1 w B (match m[i]? with | some (.box cs _) => m.set i (.box cs true) | _ => m) ∧
        ∀ id cs fz, m[id]? = some (.box cs fz) → ∃ fz', (match m[i]? with | some (.box cs _) => m.set i (.box cs true) | _ => m)[id]? = some (.box cs fz') ∧ (fz = true → fz' = true) ∧ (id = i → fz' = true) := by
      split
      · rename_i cs0 fz0 hm0
        obtain ⟨K1, x1, s1, r1⟩ := frzB1 h hm0
        refine ⟨K1, x1, s1, r1, fun id cs fz hm => ?_⟩
        have hlt : i < m.length := (List.getElem?_eq_some_iff.1 hm0).1
        by_cases e : id = i
        · subst e
          rw [hm] at hm0
          cases hm0
          exact ⟨true, by rw [List.getElem?_set_self hlt], fun _ => rfl, fun _ => rfl⟩
        · exact ⟨fz, by rw [List.getElem?_set_ne (fun q => e q.symm)]; exact hm, fun q => q, fun q => absurd q e⟩
      · rename_i hne
        refine ⟨K, .refl K w, ⟨rfl, rfl, rfl, rfl, rfl, rfl, rfl⟩, h, fun id cs fz hm => ⟨fz, hm, fun q => q, fun q => ?_⟩⟩
        subst q
        exact absurd hm (hne cs fz)
    obtain ⟨K1, x1, s1, r1, f1⟩ := step
    obtain ⟨K2, x2, s2, r2, f2⟩ := frzB_ok r r1
    refine ⟨K2, x1.trans x2, s1.trans s2, r2, fun id cs fz hm => ?_⟩
    obtain ⟨fz1, h1, h2, h3⟩ := f1 id cs fz hm
    obtain ⟨fz2, g1, g2, g3⟩ := f2 id cs fz1 h1
    refine ⟨fz2, g1, fun q => g2 (h2 q), fun hid => ?_⟩
    rcases List.mem_cons.1 hid with q | q
    · exact g2 (h3 q)
    · exact g3 q
end
/-- The steps of a turn. -/
inductive Hs where
  | canon (objs : Nat) (keep slots : List Nat)
  | plain (j : Nat) (t : Ty)
  | plainB (id off : Nat) (t : Ty)
  | mark (id : Nat)
  | frz (id : Nat)
  | promo (j : Nat) (e : TypeId) (T : Ty)
  | promoB (id off : Nat) (e : TypeId) (T : Ty)
def keepF (objs : Nat) (keep : List Nat) (i : Nat) : Bool := bif Nat.blt i objs then inL keep i else false
def hs1 (C : Ctx S) : Hs → St S → Option (St S)
  | .canon objs keep slots, s => some { tmps := convT s.mem (keepF objs keep) (inL slots) 0 s.tmps, mem := convM s.mem (keepF objs keep) 0 (s.mem.take objs) }
  | .plain j t, s => match s.tmps[j]? with
    | some v => (dec C.E (mark s.mem v.owns) t v).map fun x => { tmps := s.tmps.set j (encV C.E t x), mem := mark s.mem v.owns }
    | none => none
  | .plainB id off t, s => match s.mem[id]? with
    | some (.box cs fz) => match (bif isStT t then some (V.agg ((cs.drop off).take (tsize C.E t))) else cs[off]?) with
      | some v => bif decide (off + tsize C.E t ≤ cs.length) then (dec C.E (mark s.mem v.owns) t v).map fun x => { s with mem := (mark s.mem v.owns).set id (.box (setCells cs off (encV C.E t x).cells) fz) } else none
      | none => none
    | _ => none
  | .mark id, s => some { s with mem := mark s.mem [id] }
  | .frz id, s => some { s with mem := frzB s.mem [id] }
  | .promo j e T, s => match s.tmps[j]? with
    | some .nilS => some { tmps := s.tmps.set j (.own s.mem.length 0), mem := s.mem ++ [.arr e T [] 0 false] }
    | some (.own _ _) => some s
    | _ => none
  | .promoB id off e T, s => match s.mem[id]? with
    | some (.box cs fz) => match cs[off]? with
      | some .nilS => some { s with mem := s.mem.set id (.box (cs.set off (.own s.mem.length 0)) fz) ++ [.arr e T [] 0 false] }
      | some (.own _ _) => some s
      | _ => none
    | _ => none
def hsL (C : Ctx S) : List Hs → St S → Option (St S)
  | [], s => some s
  | h :: r, s => (hs1 C h s).bind (hsL C r)
/-- A loop's name: how deep it lies, and its first region. -/
def firstR : Code → Option Nat
  | .region id _ _ => some id
  | .seq a b => (firstR a).or (firstR b)
  | .cond _ a b => (firstR a).or (firstR b)
  | .block _ b => firstR b
  | .scope b => firstR b
  | .loop b => firstR b
  | _ => none
def loopKey : List Item → Nat × Nat
  | .inLoop c :: k => (k.length, (firstR c).getD 0)
  | k => (k.length, 0)
def keyL : List ((Nat × Nat) × List Hs) → Nat × Nat → Option (List Hs)
  | [], _ => none
  | p :: r, t => bif Nat.beq t.1 p.1.1 && Nat.beq t.2 p.1.2 then some p.2 else keyL r t
def hdOf (C : Ctx S) (tab : List ((Nat × Nat) × List Hs)) : List Item → St S → Option (St S) := fun todo s => (keyL tab (loopKey todo)).bind fun l => hsL C l s
section
variable {C : Ctx S} {B : Nat}
theorem RelS.setTmp {K : Gh} {w : World} {s : St S} {a : Act} (h : RelS C K w B s a) {j : Nat} {x y : V S} (hj : s.tmps[j]? = some x) (hxy : ∀ v, RepV C.E K w v x → RepV C.E K w v y) : RelS C K w B { s with tmps := s.tmps.set j y } a := by
  refine ⟨by simp [h.size], fun i c v p q => ?_, h.defers, h.mem⟩
  by_cases e : i = j
  · subst e
    have hlt := (List.getElem?_eq_some_iff.1 hj).1
    rw [List.getElem?_set_self hlt] at q
    cases q
    exact hxy c (h.tmps i c x p hj)
  · rw [List.getElem?_set_ne (fun r => e r.symm)] at q
    exact h.tmps i c v p q
theorem RelS.ext {K K' : Gh} {w w' : World} {s : St S} {a : Act} {m' : Mem S} (h : RelS C K w B s a) (hx : Ext K w K' w') (hm : RelM C K' w' B m') : RelS C K' w' B { s with mem := m' } a :=
  ⟨h.size, fun j c v p q => (h.tmps j c v p q).mono hx, h.defers, hm⟩
/-- A box's cell told otherwise. -/
theorem RelM.recell {K : Gh} {w : World} {m : Mem S} (h : RelM C K w B m) {id : Nat} {cs ds : List (V S)} {fz : Bool} (hm : m[id]? = some (.box cs fz)) (hl : ds.length = cs.length)
    (hd : ∀ (c : Array Value), c.size = cs.length → (∀ (j : Nat) (v : Value) (x : V S), c[j]? = some v → cs[j]? = some x → RepV C.E K w v x) → ∀ (j : Nat) (v : Value) (x : V S), c[j]? = some v → ds[j]? = some x → RepV C.E K w v x) :
    RelM C K w B (m.set id (.box ds fz)) := by
  have hlt : id < m.length := (List.getElem?_eq_some_iff.1 hm).1
  have hin : id < K.n := h.n ▸ hlt
  refine h.set hin (.refl K w) rfl (fun j _ _ => ⟨rfl, rfl, rfl, rfl, rfl⟩) (fun _ => .inl rfl) (fun k _ _ => rfl) (Nat.le_refl _) (fun q => .inl ⟨q, rfl⟩) h.new ?_
  obtain ⟨h0, hlv, c, e, h1, h2, h3, h4, h5⟩ := h.ob id _ hm
  exact ⟨h0, hlv, c, e, h1, h2.trans hl.symm, hd c h2 h3, h4, h5⟩
theorem keepF_lt {objs : Nat} {keep : List Nat} {i : Nat} (h : keepF objs keep i = true) : i < objs := by
  unfold keepF at h
  cases hb : Nat.blt i objs with
  | true => simpa [Nat.blt_eq] using hb
  | false => rw [hb] at h; cases h
theorem oneCells {u : Value} (h : u.oneCell' = true) : u.cells = #[u] := by
  cases u <;> first | rfl | (simp [Value.oneCell'] at h)
theorem mark1_box {m : Mem S} {i id : Nat} {cs : List (V S)} {fz : Bool} (h : m[id]? = some (.box cs fz)) : (mark1 m i)[id]? = some (.box cs fz) := by
  unfold mark1
  split
  · rename_i hm
    by_cases e : i = id
    · subst e; rw [hm] at h; cases h
    · rw [List.getElem?_set_ne e]; exact h
  · exact h
theorem mark_box {id : Nat} {cs : List (V S)} {fz : Bool} : ∀ {ids : List Nat} {m : Mem S}, m[id]? = some (.box cs fz) → (mark m ids)[id]? = some (.box cs fz)
  | [], _, h => h
  | _ :: ids, _, h => by
    unfold mark
    exact mark_box (ids := ids) (mark1_box h)
theorem hs1_ok (hE : EnvOK C.E) {K0 : Gh} {w0 : World} (h0 : K0.n = 0) (h : Hs) {s s' : St S} {a : Act} {w : World} (hA : At C B K0 w0 s a w) (hs : hs1 C h s = some s') : At C B K0 w0 s' a w := by
  obtain ⟨K, x1, x2, x3⟩ := hA
  cases h with
  | canon objs keep slots =>
    simp only [hs1, Option.some.injEq] at hs
    subst hs
    have hk : ∀ i, keepF objs keep i = true → i < objs := fun i => keepF_lt
    refine ⟨K.turn s.mem objs (keepF objs keep), ⟨by rw [h0]; exact Nat.zero_le _, fun i hi => by omega, x1.σ, x1.cell, x1.map, x1.σ0⟩, x2, ?_, fun j c v p q => ?_, x3.defers, turn_rel x3.mem hk⟩
    · rw [convT_len]; exact x3.size
    · rw [convT_get, Nat.zero_add] at q
      cases hv : s.tmps[j]? with
      | none => rw [hv] at q; cases q
      | some z =>
        rw [hv] at q
        simp only [Option.map_some, Option.some.injEq] at q
        subst q
        cases inL slots j with
        | true => exact convL_rep x3.mem hk (x3.tmps j c z p hv)
        | false => exact .undef _
  | plain j t =>
    simp only [hs1] at hs
    split at hs
    · rename_i v hv
      simp only [Option.map_eq_some_iff] at hs
      obtain ⟨x, hx, rfl⟩ := hs
      obtain ⟨K', y1, _, y2, y3⟩ := freeze x3.mem v.owns
      exact ⟨K', x1.trans y1, x2, (x3.ext y1 y2).setTmp hv fun u hu => dec_rep hE y2 hu hx y3⟩
    · cases hs
  | mark id =>
    simp only [hs1, Option.some.injEq] at hs
    subst hs
    obtain ⟨K', y1, _, y2, _⟩ := freeze x3.mem [id]
    exact ⟨K', x1.trans y1, x2, x3.ext y1 y2⟩
  | frz id =>
    simp only [hs1, Option.some.injEq] at hs
    subst hs
    obtain ⟨K', y1, _, y2, _⟩ := frzB_ok [id] x3.mem
    exact ⟨K', x1.trans y1, x2, x3.ext y1 y2⟩
  | promo j e T =>
    simp only [hs1] at hs
    split at hs
    · rename_i hv
      simp only [Option.some.injEq] at hs
      subst hs
      have hlt := (List.getElem?_eq_some_iff.1 hv).1
      have hla : j < a.tmps.size := by rw [x3.size]; exact hlt
      have hrep := x3.tmps j a.tmps[j] .nilS (by simp [hla]) hv
      generalize hu : a.tmps[j] = u at hrep
      cases hrep with
      | nilS ad =>
        obtain ⟨K', y1, y2, y3⟩ := newNil x3.mem e T ad
        refine ⟨K', x1.trans y1, x2, ⟨by simp [x3.size], fun i c v p q => ?_, x3.defers, y2⟩⟩
        simp only at p q
        by_cases ei : i = j
        · subst ei
          rw [List.getElem?_set_self hlt] at q
          cases q
          rw [Array.getElem?_eq_getElem hla, hu, Option.some.injEq] at p
          subst p
          exact y3
        · rw [List.getElem?_set_ne (fun r => ei r.symm)] at q
          exact (x3.tmps i c v p q).mono y1
    · simp only [Option.some.injEq] at hs
      subst hs
      exact ⟨K, x1, x2, x3⟩
    · cases hs
  | plainB id off t =>
    simp only [hs1] at hs
    split at hs
    · rename_i cs fz hm
      split at hs
      · rename_i v hv
        cases ho : decide (off + tsize C.E t ≤ cs.length) with
        | false => rw [ho] at hs; cases hs
        | true =>
          rw [ho] at hs
          simp only [cond_true, Option.map_eq_some_iff] at hs
          obtain ⟨x, hx, rfl⟩ := hs
          have hle : off + tsize C.E t ≤ cs.length := by simpa using ho
          obtain ⟨K', y1, _, y2, y3⟩ := freeze x3.mem v.owns
          replace hm := mark_box (ids := v.owns) hm
          replace x1 := x1.trans y1
          replace x3 := x3.ext y1 y2
          have hcl : (encV C.E t x).cells.length = tsize C.E t := by
            rw [encV_cells, elemCells_eq, List.length_map, cellsOf_len hE]
          refine ⟨K', x1, x2, x3.ext (.refl K' w) (x3.mem.recell hm (setCells_len _ _ _) fun c hc hcr j u y p q => ?_)⟩
          rw [setCells_get cs _ off (by rw [hcl]; exact hle), hcl] at q
          split at q
          · rename_i hr
            -- of what is told anew
            have hone : ∀ (V0 : Value), RepV C.E K' w V0 v → V0.cells[j - off]? = some u → v.defd = true → RepV C.E K' w u y := by
              intro V0 hV0 hV1 hdf
              have hd := dec_rep hE x3.mem hV0 hx y3
              have hdd : (encV C.E t x).defd = true := by cases t <;> rfl
              exact (hd.cells hdd).2 _ u y hV1 q
            cases hst : isStT t with
            | true =>
              rw [hst] at hv
              simp only [cond_true, Option.some.injEq] at hv
              subst hv
              refine hone (.agg (c.extract off (off + tsize C.E t))) (.agg _ _ ?_ fun i z y' p' q' => ?_) ?_ rfl
              · simp; omega
              · rw [List.getElem?_take] at q'
                split at q'
                · rename_i hi
                  rw [List.getElem?_drop] at q'
                  have : c[off + i]? = some z := by
                    rw [Array.getElem?_extract] at p'
                    split at p'
                    · exact p'
                    · cases p'
                  exact hcr (off + i) z y' this q'
                · cases q'
              · simp only [Value.cells]
                rw [Array.getElem?_extract, if_pos (by omega)]
                rw [show off + (j - off) = j by omega]; exact p
            | false =>
              rw [hst] at hv
              simp only [cond_false] at hv
              have h1 : tsize C.E t = 1 := by cases t <;> first | rfl | exact absurd hst (by simp [isStT])
              have hj : j = off := by omega
              subst hj
              have hrv := hcr j u v p hv
              have hv1 : v.one = true := by
                have : ∀ t : Ty, (∃ y, decLeaf (mark s.mem v.owns) t v = some y) → v.one = true := by
                  rintro t ⟨y, hy⟩
                  cases v <;> first | rfl | (simp [decLeaf] at hy)
                refine this t ?_
                cases t <;> first | exact ⟨_, hx⟩ | exact absurd hst (by simp [isStT])
              refine hone u hrv ?_ (by cases v <;> first | rfl | (cases hv1))
              rw [oneCells (hrv.oneCell hv1)]; simp
          · exact hcr j u y p q
      · cases hs
    · cases hs
  | promoB id off e T =>
    simp only [hs1] at hs
    split at hs
    · rename_i cs fz hm
      split at hs
      · rename_i hv
        simp only [Option.some.injEq] at hs
        subst hs
        obtain ⟨g0, hlv, c, ce, h1, h2, h3, h4, h5⟩ := x3.mem.ob id _ hm
        have hlt := (List.getElem?_eq_some_iff.1 hv).1
        have hla : off < c.size := by omega
        have hrep := h3 off c[off] .nilS (by simp [hla]) hv
        generalize hu : c[off] = u at hrep
        cases hrep with
        | nilS ad =>
          obtain ⟨K', y1, y2, y3⟩ := newNil x3.mem e T ad
          have hidlt : id < s.mem.length := (List.getElem?_eq_some_iff.1 hm).1
          have hm' : (s.mem ++ [Ob.arr e T [] 0 false])[id]? = some (.box cs fz) := by rw [List.getElem?_append_left hidlt]; exact hm
          obtain ⟨k0, klv, c', ce', k1, k2, k3, k4, k5⟩ := y2.ob id _ hm'
          have hset : s.mem.set id (.box (cs.set off (.own s.mem.length 0)) fz) ++ [Ob.arr e T [] 0 false] = (s.mem ++ [Ob.arr e T [] 0 false]).set id (.box (cs.set off (.own s.mem.length 0)) fz) := by
            rw [List.set_append_left _ _ hidlt]
          rw [hset]
          have hin : id < K'.n := by rw [y2.n]; simp; omega
          have hin0 : id < K.n := by rw [x3.mem.n]; exact hidlt
          have hι : K'.ι id = K.ι id := by
            obtain ⟨q1, q2⟩ := y1.id id hin0
            exact (q2 (by rw [k0, g0])).1
          have hcc : c' = c := by
            rw [hι, h1] at k1
            cases k1; rfl
          subst hcc
          refine ⟨K', x1.trans y1, x2, x3.ext y1 (y2.set hin (.refl K' w) rfl (fun j _ _ => ⟨rfl, rfl, rfl, rfl, rfl⟩) (fun _ => .inl rfl) (fun k _ _ => rfl) (Nat.le_refl _) (fun q => .inl ⟨q, rfl⟩) y2.new ?_)⟩
          refine ⟨k0, klv, c', ce', k1, by simpa using k2, fun j v x p q => ?_, k4, k5⟩
          by_cases ej : j = off
          · subst ej
            rw [List.getElem?_set_self hlt] at q
            cases q
            rw [Array.getElem?_eq_getElem hla, hu, Option.some.injEq] at p
            subst p
            exact y3
          · rw [List.getElem?_set_ne (fun r => ej r.symm)] at q
            exact k3 j v x p q
      · simp only [Option.some.injEq] at hs
        subst hs
        exact ⟨K, x1, x2, x3⟩
      · cases hs
    · cases hs
theorem hsL_ok (hE : EnvOK C.E) {K0 : Gh} {w0 : World} (h0 : K0.n = 0) {a : Act} {w : World} : ∀ (l : List Hs) (s s' : St S), At C B K0 w0 s a w → hsL C l s = some s' → At C B K0 w0 s' a w
  | [], s, s', hA, hs => by cases hs; exact hA
  | h :: r, s, s', hA, hs => by
    obtain ⟨s1, h1, hs⟩ := bsome hs
    exact hsL_ok hE h0 r s1 s' (hs1_ok hE h0 h hA h1) hs
theorem hdOf_ok (hE : EnvOK C.E) (tab : List ((Nat × Nat) × List Hs)) : HdOK C (hdOf C tab) := by
  intro B K0 w0 todo s s' a w h0 hA hs
  unfold hdOf at hs
  obtain ⟨l, _, hs⟩ := bsome hs
  exact hsL_ok hE h0 l s s' hA hs
end
end Go.Lv
namespace Go.Lv
set_option linter.all false
open Go Go.RowKit
variable {S : Nat → Type}
/-- The loops of a body, each with what comes behind it. -/
def loopsOf : Code → List Item → List (List Item)
  | .seq a b, k => loopsOf a (.code b :: k) ++ loopsOf b k
  | .cond _ x y, k => loopsOf x k ++ loopsOf y k
  | .block id b, k => loopsOf b (.inBlock id :: k)
  | .scope b, k => loopsOf b (.inScope b :: k)
  | .loop b, k => (.inLoop b :: k) :: loopsOf b (.inLoop b :: k)
  | _, _ => []
section
variable (C : Ctx S) (cl : Cl S) {R : Type}
def todoOf (f : FuncId) (i : Nat) : List Item := match body? C f with
  | some (_, b) => (loopsOf b []).getD i []
  | none => []
def finW (f : FuncId) (ts : List Ty) (de : List (Cell S) → Option R) : St S → D R := match body? C f with
  | some (fn, _) => finR C fn ts de
  | none => fun _ => .fail
def roundT (hd : List Item → St S → Option (St S)) (fin : St S → D R) (L : Lp S R) (s : St S) : List Item → D R
  | .inLoop c :: k => ex C cl (canonL hd L) fin fuel (.code c :: .inLoop c :: k) s
  | _ => .fail
def roundW (hd : List Item → St S → Option (St S)) (f : FuncId) (i : Nat) (ts : List Ty) (de : List (Cell S) → Option R) (L : Lp S R) (s : St S) : D R :=
  roundT C cl hd (finW C f ts de) L s (todoOf C f i)
theorem Lfix_round (hd : List Item → St S → Option (St S)) (f : FuncId) (i : Nat) (ts : List Ty) (de : List (Cell S) → Option R) (n : Nat) (s : St S) :
    Lfix C cl hd (finW C f ts de) (n + 1) (todoOf C f i) s = roundW C cl hd f i ts de (Lfix C cl hd (finW C f ts de) n) s := by
  unfold roundW
  generalize todoOf C f i = t
  cases t with
  | nil => rfl
  | cons x k => cases x <;> rfl
theorem runF_eq (hd : List Item → St S → Option (St S)) (f : FuncId) (ts : List Ty) (de : List (Cell S) → Option R) (n : Nat) (args : List (V S)) :
    runF C cl hd f ts de n args = runW C cl (fun _ => canonL hd (Lfix C cl hd (finW C f ts de) n)) f ts de args := by
  unfold runF runW finW
  cases body? C f with
  | none => rfl
  | some p => rfl
def AllOK : List (Nat × Spec S) → Prop
  | [] => True
  | p :: r => SpecOK C p.1 p.2 ∧ AllOK r
end
theorem AllOK.mem {C : Ctx S} : ∀ {l : List (Nat × Spec S)}, AllOK C l → ∀ p, p ∈ l → SpecOK C p.1 p.2
  | [], _, p, h => by cases h
  | q :: r, h, p, hp => by
    rcases List.mem_cons.1 hp with rfl | hp
    · exact h.1
    · exact AllOK.mem h.2 p hp
theorem specs_ok {C : Ctx S} {l : List (Nat × Spec S)} (hl : C.spec = spL l) (h : AllOK C l) : ∀ f sp, C.spec f = some sp → SpecOK C f sp := by
  intro f sp hf
  rw [hl] at hf
  exact h.mem _ (spL_mem hf)
theorem inl_ok {C : Ctx S} {l : List Nat} (hl : C.inl = inL l) (h : l.all (fnOk C) = true) : ∀ f, C.inl f = true → fnOk C f = true := by
  intro f hf
  rw [hl] at hf
  exact (List.all_eq_true.1 h) f (inL_mem hf)
/-- How many rounds a loop is let. -/
def big : Nat := 4611686018427387904
end Go.Lv
namespace Go.Lv
set_option linter.all false
open Go Go.RowKit
variable {S : Nat → Type}
/-! Runs whose states are told afresh at each step: the same runs; the kernel takes them faster. -/
section
variable {β : Type 1}
def fcN (n : Nat) (k : Nat → β) : β := match n with
  | 0 => k 0
  | m + 1 => k (m + 1)
theorem fcN_eq (n : Nat) (k : Nat → β) : fcN n k = k n := by cases n <;> rfl
def fcC (v : V S) (k : V S → β) : β := match v with
  | .cell t x => k (.cell t x)
  | .full t l => k (.full t l)
  | .nilS => k .nilS
  | .agg cs => k (.agg cs)
  | .ptr id off => fcN id fun id => fcN off fun off => k (.ptr id off)
  | .own id g => fcN id fun id => fcN g fun g => k (.own id g)
  | .eptr id g i off => fcN id fun id => fcN g fun g => fcN off fun off => k (.eptr id g i off)
  | .ro cs => k (.ro cs)
  | .clo f a b => k (.clo f a b)
  | .tup vs => k (.tup vs)
  | .cmap es => k (.cmap es)
  | .mapr id => fcN id fun id => k (.mapr id)
  | .ifc t => k (.ifc t)
  | .undef => k .undef
  | .known j x => k (.known j x)
theorem fcC_eq (v : V S) (k : V S → β) : fcC v k = k v := by cases v <;> simp [fcC, fcN_eq]
def fcL : List (V S) → (List (V S) → β) → β
  | [], k => k []
  | v :: r, k => fcC v fun v => fcL r fun r => k (v :: r)
theorem fcL_eq : ∀ (l : List (V S)) (k : List (V S) → β), fcL l k = k l
  | [], k => rfl
  | v :: r, k => by simp only [fcL, fcC_eq, fcL_eq r]
def fcV (v : V S) (k : V S → β) : β := match v with
  | .agg cs => fcL cs fun cs => k (.agg cs)
  | .ro cs => fcL cs fun cs => k (.ro cs)
  | .clo f a b => fcL a fun a => fcL b fun b => k (.clo f a b)
  | .tup vs => fcL vs fun vs => k (.tup vs)
  | .known j x => fcC x fun x => k (.known j x)
  | v => fcC v k
theorem fcV_eq (v : V S) (k : V S → β) : fcV v k = k v := by cases v <;> simp [fcV, fcC_eq, fcL_eq]
def fcO (o : Ob S) (k : Ob S → β) : β := match o with
  | .box cs fz => fcL cs fun cs => k (.box cs fz)
  | .arr e t l g fz => fcN g fun g => k (.arr e t l g fz)
  | .map a b l => k (.map a b l)
theorem fcO_eq (o : Ob S) (k : Ob S → β) : fcO o k = k o := by cases o <;> simp [fcO, fcN_eq, fcL_eq]
def fcM : Mem S → (Mem S → β) → β
  | [], k => k []
  | o :: r, k => fcO o fun o => fcM r fun r => k (o :: r)
theorem fcM_eq : ∀ (l : Mem S) (k : Mem S → β), fcM l k = k l
  | [], k => rfl
  | v :: r, k => by simp only [fcM, fcO_eq, fcM_eq r]
/-- A list with a place told anew. -/
def fcS : List (V S) → Nat → V S → (List (V S) → β) → β
  | [], _, _, k => k []
  | _ :: r, 0, v, k => k (v :: r)
  | x :: r, n + 1, v, k => fcS r n v fun r => k (x :: r)
theorem fcS_eq : ∀ (l : List (V S)) (n : Nat) (v : V S) (k : List (V S) → β), fcS l n v k = k (l.set n v)
  | [], _, _, k => by simp [fcS]
  | x :: r, 0, v, k => rfl
  | x :: r, n + 1, v, k => by simp only [fcS, fcS_eq r, List.set_cons_succ]
end
/-! Slots in rows of twelve: what is read, or told anew, lies a few steps away. -/
section
variable {α : Type}
def rflat : List (List α) → List α
  | [] => []
  | r :: rs => r ++ rflat rs
def rget : List (List α) → Nat → Nat → Option α
  | [], _, _ => none
  | r :: _, 0, j => r[j]?
  | _ :: rs, q + 1, j => rget rs q j
def rset : List (List α) → Nat → Nat → α → List (List α)
  | [], _, _, _ => []
  | r :: rs, 0, j, v => r.set j v :: rs
  | r :: rs, q + 1, j, v => r :: rset rs q j v
def RWf : List (List α) → Prop
  | [] => True
  | r :: rs => (r.length = 12 ∨ rs = [] ∧ r.length ≤ 12) ∧ RWf rs
theorem rget_eq : ∀ (rs : List (List α)) (d : Nat), RWf rs → rget rs (Nat.div d 12) (Nat.mod d 12) = (rflat rs)[d]?
  | [], d, _ => by simp [rget, rflat]
  | r :: rs, d, h => by
    have h12 : r.length ≤ 12 := by rcases h.1 with h | h <;> omega
    by_cases hd : d < 12
    · have e1 : Nat.div d 12 = 0 := Nat.div_eq_of_lt hd
      have e2 : Nat.mod d 12 = d := Nat.mod_eq_of_lt hd
      rw [e1, e2]
      simp only [rget, rflat]
      rcases h.1 with h | h
      · rw [List.getElem?_append_left (by omega)]
      · rw [h.1]; simp [rflat]
    · have e1 : Nat.div d 12 = Nat.div (d - 12) 12 + 1 := by show d / 12 = (d - 12) / 12 + 1; omega
      have e2 : Nat.mod d 12 = Nat.mod (d - 12) 12 := by show d % 12 = (d - 12) % 12; omega
      rw [e1, e2]
      simp only [rget, rflat]
      rw [rget_eq rs (d - 12) h.2]
      rcases h.1 with h | h
      · rw [List.getElem?_append_right (by omega), h]
      · rw [h.1, List.getElem?_append_right (by omega)]; simp [rflat]
theorem rset_eq : ∀ (rs : List (List α)) (d : Nat) (v : α), RWf rs → rflat (rset rs (Nat.div d 12) (Nat.mod d 12) v) = (rflat rs).set d v
  | [], d, v, _ => by simp [rset, rflat]
  | r :: rs, d, v, h => by
    have h12 : r.length ≤ 12 := by rcases h.1 with h | h <;> omega
    by_cases hd : d < 12
    · have e1 : Nat.div d 12 = 0 := Nat.div_eq_of_lt hd
      have e2 : Nat.mod d 12 = d := Nat.mod_eq_of_lt hd
      rw [e1, e2]
      simp only [rset, rflat]
      rcases h.1 with h | h
      · rw [List.set_append_left _ _ (by omega)]
      · rw [h.1]; simp [rflat]
    · have e1 : Nat.div d 12 = Nat.div (d - 12) 12 + 1 := by show d / 12 = (d - 12) / 12 + 1; omega
      have e2 : Nat.mod d 12 = Nat.mod (d - 12) 12 := by show d % 12 = (d - 12) % 12; omega
      rw [e1, e2]
      simp only [rset, rflat]
      rw [rset_eq rs (d - 12) v h.2]
      rcases h.1 with h | h
      · rw [List.set_append_right _ _ (by omega), h]
      · rw [h.1, List.set_append_right _ _ (by omega)]; simp [rflat]
theorem rset_wf : ∀ (rs : List (List α)) (q j : Nat) (v : α), RWf rs → RWf (rset rs q j v)
  | [], _, _, _, h => h
  | r :: rs, 0, j, v, h => by simpa [rset, RWf] using h
  | r :: rs, q + 1, j, v, h => by
    refine ⟨?_, rset_wf rs q j v h.2⟩
    rcases h.1 with h | h
    · exact .inl h
    · rw [h.1]; exact .inr ⟨rfl, h.2⟩
/-- A list laid in rows. -/
def rchunk : List α → List α → List (List α)
  | [], _ => []
  | _ :: f, l => match l with
    | [] => []
    | x :: r => ((x :: r).take 12) :: rchunk f ((x :: r).drop 12)
theorem chunk_ok : ∀ (f l : List α), l.length ≤ f.length → rflat (rchunk f l) = l ∧ RWf (rchunk f l)
  | [], l, h => by
    have : l = [] := List.length_eq_zero_iff.1 (by simpa using h)
    subst this; exact ⟨rfl, trivial⟩
  | _ :: f, [], _ => ⟨rfl, trivial⟩
  | _ :: f, x :: r, h => by
    have ih := chunk_ok f ((x :: r).drop 12) (by simp at h ⊢; omega)
    simp only [rchunk, rflat]
    refine ⟨by rw [ih.1, List.take_append_drop], ?_, ih.2⟩
    by_cases hl : 12 ≤ (x :: r).length
    · exact .inl (by rw [List.length_take]; omega)
    · refine .inr ⟨?_, by rw [List.length_take]; omega⟩
      rw [List.drop_eq_nil_of_le (by omega)]
      cases f <;> rfl
end
section
variable {β : Type 1} {α : Type}
def fcR : List (List (V S)) → Nat → Nat → V S → (List (List (V S)) → β) → β
  | [], _, _, _, k => k []
  | r :: rs, 0, j, v, k => fcN j fun j => fcS r j v fun r => k (r :: rs)
  | r :: rs, q + 1, j, v, k => fcR rs q j v fun rs => k (r :: rs)
theorem fcR_eq : ∀ (rs : List (List (V S))) (q j : Nat) (v : V S) (k : List (List (V S)) → β), fcR rs q j v k = k (rset rs q j v)
  | [], _, _, _, _ => rfl
  | r :: rs, 0, j, v, k => by simp only [fcR, fcN_eq, fcS_eq, rset]
  | r :: rs, q + 1, j, v, k => by simp only [fcR, fcR_eq rs, rset]
def fcA : Nat → List α → (List α → List α → β) → β
  | 0, l, k => k [] l
  | _ + 1, [], k => k [] []
  | n + 1, x :: l, k => fcA n l fun a b => k (x :: a) b
theorem fcA_eq : ∀ (n : Nat) (l : List α) (k : List α → List α → β), fcA n l k = k (l.take n) (l.drop n)
  | 0, l, k => by simp [fcA]
  | _ + 1, [], k => by simp [fcA]
  | n + 1, x :: l, k => by simp only [fcA, fcA_eq n l, List.take_succ_cons, List.drop_succ_cons]
def fcK : List α → List α → (List (List α) → β) → β
  | [], _, k => k []
  | _ :: f, l, k => match l with
    | [] => k []
    | x :: r => fcA 12 (x :: r) fun a b => fcK f b fun rs => k (a :: rs)
theorem fcK_eq : ∀ (f l : List α) (k : List (List α) → β), fcK f l k = k (rchunk f l)
  | [], _, _ => rfl
  | _ :: f, [], _ => rfl
  | _ :: f, x :: r, k => by simp only [fcK, fcA_eq, fcK_eq f, rchunk]
end
structure Sr (S : Nat → Type) where
  rows : List (List (V S))
  mem : Mem S
def Sr.st (s : Sr S) : St S := { tmps := rflat s.rows, mem := s.mem }
theorem D.bind_assoc {α β γ : Type} (d : D α) (f : α → D β) (g : β → D γ) : (d.bind f).bind g = d.bind fun a => (f a).bind g := by
  induction d with
  | ret a => rfl
  | fail => rfl
  | split b x y hx hy => simp only [D.bind, hx, hy]
  | call o k ih => simp only [D.bind]; congr 1; funext r; exact ih r
section
variable (C : Ctx S)
def Sr.ev (s : Sr S) : Operand → V S
  | .tmp t => ((rget s.rows (Nat.div t 12) (Nat.mod t 12)).getD .undef).bare
  | .const v => ofConst v
  | .global g => match C.G g with
    | some cs => .ro cs
    | none => .undef
  | .func f => .clo f [] []
theorem Sr.ev_eq (s : Sr S) (h : RWf s.rows) : s.ev C = s.st.ev C := by
  funext o
  cases o with
  | tmp t => simp only [Sr.ev, St.ev, Sr.st, rget_eq _ _ h, List.getD_eq_getElem?_getD]
  | _ => rfl
/-- Does it turn the memory? -/
def mutB (o : Oper) : Bool := match o.op with
  | .alloc _ => true
  | .box _ _ => true
  | .store _ _ _ => true
  | .call _ => true
  | .makeSlice _ _ _ => true
  | .buildSlice _ _ _ => true
  | .slice _ _ _ _ _ => true
  | _ => false
variable {R : Type}
def setF (s : Sr S) (d : Nat) (v : V S) (m : Mem S) (k : Sr S → D R) : D R := fcR s.rows (Nat.div d 12) (Nat.mod d 12) v fun rs => k { rows := rs, mem := m }
def putV (s : Sr S) (dst : Option Nat) (v : V S) (m : Mem S) (k : Sr S → D R) : D R := match dst with
  | some d => fcV v fun v => setF s d v m k
  | none => k { rows := s.rows, mem := m }
def putF (mu : Bool) (s : Sr S) (dst : Option Nat) (p : V S × Mem S) (k : Sr S → D R) : D R :=
  match p with
  | (v, m) => match mu with
    | true => fcM m fun m => putV s dst v m k
    | false => putV s dst v m k
theorem setF_eq (s : Sr S) (h : RWf s.rows) (d : Nat) (v : V S) (m : Mem S) {k : Sr S → D R} {k' : St S → D R} (hk : ∀ s, RWf s.rows → k s = k' s.st) : setF s d v m k = k' { tmps := s.st.tmps.set d v, mem := m } := by
  unfold setF
  rw [fcR_eq, hk _ (rset_wf _ _ _ _ h)]
  simp only [Sr.st, rset_eq _ _ _ h]
theorem putF_eq (mu : Bool) (s : Sr S) (h : RWf s.rows) (dst : Option Nat) (p : V S × Mem S) {k : Sr S → D R} {k' : St S → D R} (hk : ∀ s, RWf s.rows → k s = k' s.st) : putF mu s dst p k = k' (s.st.put dst p) := by
  obtain ⟨v, m⟩ := p
  have e : putV s dst v m k = k' (s.st.put dst (v, m)) := by
    unfold putV St.put
    cases dst with
    | none => exact hk _ h
    | some d => simp only [fcV_eq]; exact setF_eq s h d v m hk
  unfold putF
  cases mu <;> simp only [fcM_eq] <;> exact e
def semOpsF (cl : Cl S) (all : List Oper) (k : Sr S → D R) : List Oper → Sr S → D R
  | [], s => k s
  | o :: r, s =>
    match o.guard with
    | none => (semOpX C cl s.mem (s.ev C) o).bind fun p => putF (mutB o) s o.dst p (semOpsF cl all k r)
    | some (j, want) =>
      match (all[j]?).bind (·.dst) with
      | some d => match rget s.rows (Nat.div d 12) (Nat.mod d 12) with
        | some (.cell .bool b) =>
          let yes (s : Sr S) := (semOpX C cl s.mem (s.ev C) o).bind fun p => putF (mutB o) s o.dst p (semOpsF cl all k r)
          let no (s : Sr S) := putF false s o.dst (.tup [], s.mem) (semOpsF cl all k r)
          .split b (setF s d (.cell .bool true) s.mem fun s' => if want then yes s' else no s')
                   (setF s d (.cell .bool false) s.mem fun s' => if want then no s' else yes s')
        | some (.tup []) => putF false s o.dst (.tup [], s.mem) (semOpsF cl all k r)
        | _ => .fail
      | none => .fail
theorem semOpsF_eq (cl : Cl S) (all : List Oper) {k : Sr S → D R} {k' : St S → D R} (hk : ∀ s, RWf s.rows → k s = k' s.st) : ∀ (l : List Oper) (s : Sr S), RWf s.rows → semOpsF C cl all k l s = (semOps C cl all l s.st).bind k'
  | [], s, h => hk s h
  | o :: r, s, h => by
    have ih := semOpsF_eq cl all hk r
    have yes : ∀ s : Sr S, RWf s.rows → ((semOpX C cl s.mem (s.ev C) o).bind fun p => putF (mutB o) s o.dst p (semOpsF C cl all k r)) = ((semOpX C cl s.st.mem (s.st.ev C) o).bind fun p => semOps C cl all r (s.st.put o.dst p)).bind k' := by
      intro s h
      rw [D.bind_assoc, s.ev_eq C h]
      congr 1
      funext p
      exact putF_eq _ s h _ _ (k' := fun s => (semOps C cl all r s).bind k') ih
    have no : ∀ s : Sr S, RWf s.rows → putF false s o.dst (.tup [], s.mem) (semOpsF C cl all k r) = (semOps C cl all r (s.st.put o.dst (.tup [], s.st.mem))).bind k' := by
      intro s h
      exact putF_eq _ s h _ _ (k' := fun s => (semOps C cl all r s).bind k') ih
    unfold semOpsF semOps
    cases hg : o.guard with
    | none => exact yes s h
    | some g =>
      obtain ⟨j, want⟩ := g
      simp only
      cases hd : (all[j]?).bind (·.dst) with
      | none => rfl
      | some d =>
        simp only
        rw [rget_eq _ _ h]
        have e : (rflat s.rows)[d]? = s.st.tmps[d]? := rfl
        rw [e]
        have key : ∀ b : Bool, D.split b
            (setF s d (.cell .bool true) s.mem fun s' => if want then (semOpX C cl s'.mem (s'.ev C) o).bind fun p => putF (mutB o) s' o.dst p (semOpsF C cl all k r) else putF false s' o.dst (.tup [], s'.mem) (semOpsF C cl all k r))
            (setF s d (.cell .bool false) s.mem fun s' => if want then putF false s' o.dst (.tup [], s'.mem) (semOpsF C cl all k r) else (semOpX C cl s'.mem (s'.ev C) o).bind fun p => putF (mutB o) s' o.dst p (semOpsF C cl all k r)) =
            (D.split b (let s' : St S := { s.st with tmps := s.st.tmps.set d (.cell .bool true) }; if want then (semOpX C cl s'.mem (s'.ev C) o).bind fun p => semOps C cl all r (s'.put o.dst p) else semOps C cl all r (s'.put o.dst (.tup [], s'.mem)))
              (let s' : St S := { s.st with tmps := s.st.tmps.set d (.cell .bool false) }; if want then semOps C cl all r (s'.put o.dst (.tup [], s'.mem)) else (semOpX C cl s'.mem (s'.ev C) o).bind fun p => semOps C cl all r (s'.put o.dst p))).bind k' := by
          intro b
          simp only [D.bind]
          congr 1
          · refine (setF_eq s h d _ s.mem (k' := fun s' => (if want then (semOpX C cl s'.mem (s'.ev C) o).bind fun p => semOps C cl all r (s'.put o.dst p) else semOps C cl all r (s'.put o.dst (.tup [], s'.mem))).bind k') fun s' h' => ?_)
            cases want
            · exact no s' h'
            · exact yes s' h'
          · refine (setF_eq s h d _ s.mem (k' := fun s' => (if want then semOps C cl all r (s'.put o.dst (.tup [], s'.mem)) else (semOpX C cl s'.mem (s'.ev C) o).bind fun p => semOps C cl all r (s'.put o.dst p)).bind k') fun s' h' => ?_)
            cases want
            · exact yes s' h'
            · exact no s' h'
        cases hv : s.st.tmps[d]? with
        | none => rfl
        | some v => cases v with
          | cell t x => cases t with
            | bool => exact key x
            | _ => rfl
          | tup vs => cases vs with
            | nil => exact no s h
            | cons _ _ => rfl
          | _ => rfl
def exF (cl : Cl S) (L : Lp S R) (fin : St S → D R) : Nat → List Item → Sr S → D R
  | 0, _, _ => .fail
  | n + 1, todo, s =>
    match todo with
    | [] => fin s.st
    | .code .ret :: _ => fin s.st
    | .code .skip :: k | .code (.label _) :: k | .inBlock _ :: k | .inScope _ :: k => exF cl L fin n k s
    | .code (.seq a b) :: k => exF cl L fin n (.code a :: .code b :: k) s
    | .code (.cond c x y) :: k => match s.ev C c with
      | .cell .bool b => .split b (exF cl L fin n (.code x :: k) s) (exF cl L fin n (.code y :: k) s)
      | _ => .fail
    | .code (.block id b) :: k => exF cl L fin n (.code b :: .inBlock id :: k) s
    | .code (.scope b) :: k => exF cl L fin n (.code b :: .inScope b :: k) s
    | .code (.loop b) :: k | .inLoop b :: k => L (.inLoop b :: k) s.st
    | .code (.exit id) :: k => match exitTo id k with
      | some k' => exF cl L fin n k' s
      | none => .fail
    | .code (.region id ops dr) :: k => bif C.hk id then L (.code (.region id ops dr) :: k) s.st else semOpsF (C.dr dr) cl ops.toList (exF cl L fin n k) ops.toList s
    | _ => .fail
theorem exF_eq (cl : Cl S) (L : Lp S R) (fin : St S → D R) : ∀ (n : Nat) (todo : List Item) (s : Sr S), RWf s.rows → exF C cl L fin n todo s = ex C cl L fin n todo s.st
  | 0, _, _, _ => rfl
  | n + 1, todo, s, h => by
    have ih := exF_eq cl L fin n
    unfold exF ex
    cases todo with
    | nil => rfl
    | cons it k =>
      cases it with
      | code c =>
        cases c with
        | cond c x y =>
          have ih' := fun t => ih t s h
          simp only [s.ev_eq C h, ih']
          cases s.st.ev C c with
          | cell t x => cases t <;> rfl
          | _ => rfl
        | exit id =>
          have ih' := fun t => ih t s h
          simp only [ih']
          cases exitTo id k <;> rfl
        | region id ops draw =>
          simp only
          cases C.hk id with
          | true => rfl
          | false => exact semOpsF_eq (C.dr draw) cl _ (fun s h => ih _ s h) _ s h
        | _ => first | rfl | exact ih _ s h
      | _ => first | rfl | exact ih _ s h
/-- A state told whole. -/
def fcT {β : Type 1} (s : St S) (k : Sr S → β) : β := fcL s.tmps fun ts => fcM s.mem fun m => fcK ts ts fun rs => k { rows := rs, mem := m }
theorem fcT_eq {β : Type 1} (s : St S) (k : Sr S → β) (k' : St S → β) (hk : ∀ s, RWf s.rows → k s = k' s.st) : fcT s k = k' s := by
  unfold fcT
  rw [fcL_eq, fcM_eq, fcK_eq]
  have hc := chunk_ok s.tmps s.tmps (Nat.le_refl _)
  rw [hk _ hc.2]
  simp only [Sr.st, hc.1]
def clDF : Nat → Cl S
  | 0 => fun _ _ _ => .fail
  | d + 1 => fun f args m => match C.P.funcs[f]? with
    | some fn => match fn.body with
      | some b => fcT (st0 fn args m) fun s => exF C (clDF d) (fun _ _ => .fail) (fun s => (D.ofOpt (resV C fn.results.toList s)).bind fun v => .ret (v, s.mem)) fuel [.code b] s
      | none => .fail
    | none => .fail
theorem clDF_eq : ∀ d, clDF C d = clD C d
  | 0 => rfl
  | d + 1 => by
    funext f args m
    unfold clDF clD
    rw [clDF_eq d]
    cases C.P.funcs[f]? with
    | none => rfl
    | some fn =>
      simp only
      cases fn.body with
      | none => rfl
      | some b => exact fcT_eq _ _ (fun s => ex C (clD C d) (fun _ _ => .fail) (fun s => (D.ofOpt (resV C fn.results.toList s)).bind fun v => .ret (v, s.mem)) fuel [.code b] s) fun s h => exF_eq C _ _ _ _ _ s h
def runWF (cl : Cl S) (L : (St S → D R) → Lp S R) (f : FuncId) (ts : List Ty) (de : List (Cell S) → Option R) (args : List (V S)) : D R :=
  match body? C f with
  | some (fn, b) => fcT (st0 fn args []) fun s => exF C cl (L (finR C fn ts de)) (finR C fn ts de) fuel [.code b] s
  | none => .fail
theorem runWF_eq (d : Nat) (L : (St S → D R) → Lp S R) (f : FuncId) (ts : List Ty) (de : List (Cell S) → Option R) (args : List (V S)) : runW C (clD C d) L f ts de args = runWF C (clDF C d) L f ts de args := by
  unfold runWF runW
  rw [clDF_eq]
  cases body? C f with
  | none => rfl
  | some p => exact (fcT_eq _ _ (fun s => ex C (clD C d) (L (finR C p.1 ts de)) (finR C p.1 ts de) fuel [.code p.2] s) fun s h => exF_eq C _ _ _ _ _ s h).symm
def roundTF (cl : Cl S) (hd : List Item → St S → Option (St S)) (fin : St S → D R) (L : Lp S R) (s : St S) : List Item → D R
  | .inLoop c :: k => fcT s fun s => exF C cl (canonL hd L) fin fuel (.code c :: .inLoop c :: k) s
  | _ => .fail
def roundWF (cl : Cl S) (hd : List Item → St S → Option (St S)) (f : FuncId) (i : Nat) (ts : List Ty) (de : List (Cell S) → Option R) (L : Lp S R) (s : St S) : D R :=
  roundTF C cl hd (finW C f ts de) L s (todoOf C f i)
theorem roundWF_eq (d : Nat) (hd : List Item → St S → Option (St S)) (f : FuncId) (i : Nat) (ts : List Ty) (de : List (Cell S) → Option R) (L : Lp S R) (s : St S) : roundW C (clD C d) hd f i ts de L s = roundWF C (clDF C d) hd f i ts de L s := by
  unfold roundWF roundW
  rw [clDF_eq]
  cases todoOf C f i with
  | nil => rfl
  | cons x k => cases x with
    | inLoop c => exact (fcT_eq _ _ (fun s => ex C (clD C d) (canonL hd L) (finW C f ts de) fuel (.code c :: .inLoop c :: k) s) fun s h => exF_eq C _ _ _ _ _ s h).symm
    | _ => rfl
end
theorem run0_ev0 {C : Ctx S} {cl : Cl S} {R : Type} {hd : List Item → St S → Option (St S)} {f : FuncId} {ts : List Ty} {de : List (Cell S) → Option R} {F : Option R} (hev : ∀ L, (runW C cl L f ts de []).opt = F) {cs : List (Cell S)} {r : R} (h : run0 F cs = some r) :
    ∃ n, (runF C cl hd f ts de n (cs.map fun c => encV C.E c.t c.x)).opt = some r := by
  obtain ⟨rfl, h⟩ := inv0 h
  exact ⟨0, (hev _).trans h⟩
end Go.Lv
namespace Go.Lv
set_option linter.all false
open Go Go.RowKit
variable {S : Nat → Type}
/-! A stretch of a body that changes nothing of what lay: it is run over what lies as over what stands still, and what lay is one's own again behind it. -/
def plainV : V S → Bool
  | .cell _ _ => true
  | .full _ _ => true
  | .nilS => true
  | _ => false
def roV (m : Mem S) : V S → V S
  | .own id g => match m[id]? with
    | some (.arr _ t l g' _) => bif Nat.beq g g' then .cell (.slice t) l else .undef
    | _ => .undef
  | .ptr id off => match m[id]? with
    | some (.box cs true) => bif Nat.beq off 0 && cs.all plainV then .ro cs else .undef
    | _ => .undef
  | .cell t x => .cell t x
  | .full t l => .full t l
  | .nilS => .nilS
  | .agg cs => bif cs.all plainV then .agg cs else .undef
  | _ => .undef
def roL (m : Mem S) : Nat → List (V S) → List (V S)
  | _, [] => []
  | j, v :: r => .known j (roV m v) :: roL m (j + 1) r
def roS (s : St S) : St S := { tmps := roL (mark (frzB s.mem (List.range s.mem.length)) (List.range s.mem.length)) 0 s.tmps, mem := [] }
def joinV (j : Nat) (u : V S) : V S → V S
  | .known i _ => bif Nat.beq i j then u else .undef
  | .cell .bool b => .cell .bool b
  | .cell (.int k) n => .cell (.int k) n
  | _ => .undef
def joinL (old : List (V S)) : Nat → List (V S) → List (V S)
  | _, [] => []
  | j, v :: r => joinV j (old.getD j .undef) v :: joinL old (j + 1) r
def joinS (s s' : St S) : St S := { tmps := joinL s.tmps 0 s'.tmps, mem := s.mem }
theorem roL_get (m : Mem S) : ∀ (l : List (V S)) (i j : Nat), (roL m i l)[j]? = (l[j]?).map fun v => .known (i + j) (roV m v)
  | [], i, j => by simp [roL]
  | o :: r, i, 0 => by simp [roL]
  | o :: r, i, j + 1 => by simp only [roL, List.getElem?_cons_succ]; rw [roL_get m r (i + 1) j]; congr 2; funext v; congr 1; omega
theorem roL_len (m : Mem S) : ∀ (l : List (V S)) (i : Nat), (roL m i l).length = l.length
  | [], _ => rfl
  | o :: r, i => by simp [roL, roL_len m r (i + 1)]
theorem joinL_get (old : List (V S)) : ∀ (l : List (V S)) (i j : Nat), (joinL old i l)[j]? = (l[j]?).map fun v => joinV (i + j) (old.getD (i + j) .undef) v
  | [], i, j => by simp [joinL]
  | o :: r, i, 0 => by simp [joinL]
  | o :: r, i, j + 1 => by
    simp only [joinL, List.getElem?_cons_succ]; rw [joinL_get old r (i + 1) j]
    have : i + 1 + j = i + (j + 1) := by omega
    rw [this]
theorem joinL_len (old : List (V S)) : ∀ (l : List (V S)) (i : Nat), (joinL old i l).length = l.length
  | [], _ => rfl
  | o :: r, i => by simp [joinL, joinL_len old r (i + 1)]
section
variable {C : Ctx S} {cl : Cl S} {B : Nat} {h2 : Nat → Bool}
theorem RelM.hk {K : Gh} {w : World} {m : Mem S} (h : RelM C K w B m) : RelM { C with hk := h2 } K w B m := ⟨h.n, h.ob, h.inj, h.new, h.glob, h.base, h.old⟩
theorem RelM.unhk {K : Gh} {w : World} {m : Mem S} (h : RelM { C with hk := h2 } K w B m) : RelM C K w B m := ⟨h.n, h.ob, h.inj, h.new, h.glob, h.base, h.old⟩
theorem RelS.hk {K : Gh} {w : World} {s : St S} {a : Act} (h : RelS C K w B s a) : RelS { C with hk := h2 } K w B s a := ⟨h.size, h.tmps, h.defers, h.mem.hk⟩
theorem RelS.unhk {K : Gh} {w : World} {s : St S} {a : Act} (h : RelS { C with hk := h2 } K w B s a) : RelS C K w B s a := ⟨h.size, h.tmps, h.defers, h.mem.unhk⟩
theorem At.hk {K0 : Gh} {w0 w : World} {s : St S} {a : Act} (h : At C B K0 w0 s a w) : At { C with hk := h2 } B K0 w0 s a w := by
  obtain ⟨K, x1, x2, x3⟩ := h
  exact ⟨K, x1, x2, x3.hk⟩
theorem At.unhk {K0 : Gh} {w0 w : World} {s : St S} {a : Act} (h : At { C with hk := h2 } B K0 w0 s a w) : At C B K0 w0 s a w := by
  obtain ⟨K, x1, x2, x3⟩ := h
  exact ⟨K, x1, x2, x3.unhk⟩
theorem ClOK.hk (h : ClOK C cl) : ClOK { C with hk := h2 } cl := fun f hf => by
  obtain ⟨h1, h2⟩ := h f hf
  refine ⟨h1, fun K w B m args vs x m' hm hl hr hx => ?_⟩
  refine (h2 K w B m args vs x m' hm.unhk hl hr hx).mono ?_
  rintro e w' ⟨v, K', a1, a2, a3, a4, a5⟩
  exact ⟨v, K', a1, a2, a3, a4.hk, a5⟩
theorem chk_hk (C : Ctx S) (g g' : Nat → Bool) (all bef) : ∀ (l : List Oper) (i : Nat), chkFrom { C with hk := g } all bef i l = chkFrom { C with hk := g' } all bef i l
  | [], i => rfl
  | o :: r, i => by
    unfold chkFrom
    rw [chk_hk C g g' all bef r (i + 1)]
    rfl
theorem codeOk_hk (C : Ctx S) (g g' : Nat → Bool) : ∀ c : Code, codeOk { C with hk := g } c = codeOk { C with hk := g' } c
  | .seq a b => by unfold codeOk; rw [codeOk_hk C g g' a, codeOk_hk C g g' b]
  | .cond _ a b => by unfold codeOk; rw [codeOk_hk C g g' a, codeOk_hk C g g' b]
  | .block _ b => by unfold codeOk; exact codeOk_hk C g g' b
  | .scope b => by unfold codeOk; exact codeOk_hk C g g' b
  | .loop b => by unfold codeOk; exact codeOk_hk C g g' b
  | .region _ ops true => by
    obtain ⟨P, E, ty, G, sp, inl, own, flat, fl, ro, hk⟩ := C
    cases flat with
    | false => exact chk_hk ⟨P, E, ty, G, sp, inl, own, false, fl, ro, hk⟩ g g' _ _ _ _
    | true => exact chk_hk ⟨P, E, ty, G, sp, inl, own, true, true, ro, hk⟩ g g' _ _ _ _
  | .region _ _ false => rfl
  | .ret => rfl
  | .skip => rfl
  | .label _ => rfl
  | .exit _ => rfl
  | .goto _ => rfl
  | .rangeFunc _ _ _ _ => rfl
  | .refuse _ => rfl
theorem itemsOk_hk (C : Ctx S) (g g' : Nat → Bool) : ∀ l : List Item, itemsOk { C with hk := g } l = itemsOk { C with hk := g' } l
  | [] => rfl
  | i :: k => by
    unfold itemsOk
    rw [itemsOk_hk C g g' k]
    cases i <;> first | rfl | (simp only [itemOk]; rw [codeOk_hk C g g'])
theorem plain_rep {K : Gh} {w : World} {v : Value} {x : V S} (hp : plainV x = true) (h : RepV C.E K w v x) : RepV C.E (gh0 K.σ) w v x := by
  cases h with
  | cell h => exact .cell h
  | full h => exact .full h
  | nilS a => exact .nilS a
  | _ => cases hp
theorem roV_rep (hE : EnvOK C.E) {K : Gh} {w : World} {m : Mem S} (h : RelM C K w B m) (hf : Frz C.E K m (List.range m.length)) {v : Value} {x : V S} (hv : RepV C.E K w v x) : RepV C.E (gh0 K.σ) w v (roV m x) := by
  cases hv with
  | own id g v hn hg hp hh =>
    simp only [roV]
    split
    · rename_i e t l g' fz hm
      cases hb : Nat.beq g g' with
      | false => exact .undef _
      | true =>
        have eg : g = g' := Nat.eq_of_beq_eq_true hb
        subst eg
        have hd : dec C.E m (.slice t) (.own id g) = some l := by
          show decLeaf m (.slice t) (.own id g) = some l
          simp only [decLeaf, hm, if_pos]
          rfl
        have := dec_rep hE h (.own id g v hn hg hp hh) hd (fun i hi => by
          have : i = id := by simpa [V.owns] using hi
          subst this
          exact hf i (List.mem_range.2 (List.getElem?_eq_some_iff.1 hm).1))
        exact enc_gh0 this
    · exact .undef _
  | ptr id off v hn hp hh =>
    simp only [roV]
    split
    · rename_i cs hm
      cases hb : Nat.beq off 0 && cs.all plainV with
      | false => exact .undef _
      | true =>
        rw [Bool.and_eq_true] at hb
        have e0 : off = 0 := Nat.eq_of_beq_eq_true hb.1
        subst e0
        obtain ⟨hg, f, q1, q2⟩ := box_cells h hm
        obtain ⟨_, _, c, e, h1, h2, h3, h4, h5⟩ := h.ob id _ hm
        rw [hh hg]
        refine .ro (K.ι id) 0 cs f (by rw [Nat.zero_add, ← h2]; exact h5 rfl) q1 fun j y hy => ?_
        exact plain_rep (List.all_eq_true.1 hb.2 y (List.mem_of_getElem? hy)) (q2 j y hy)
    · exact .undef _
  | cell h => exact .cell h
  | full h => exact .full h
  | nilS a => exact .nilS a
  | agg cs vs hs hj =>
    simp only [roV]
    cases hb : vs.all plainV with
    | false => exact .undef _
    | true => exact .agg cs vs hs fun j c y p q => plain_rep (List.all_eq_true.1 hb y (List.mem_of_getElem? q)) (hj j c y p q)
  | _ => exact .undef _
/-- A stretch up to the regions of h2, and what comes behind it. -/
def sgW {R : Type} (C : Ctx S) (h2 : Nat → Bool) (cl : Cl S) (fin : St S → D R) (todo : List Item) (s : St S) : D R :=
  ex { C with hk := h2 } cl (fun todo' s' => match todo' with
    | .code (.region id ops dr) :: k => ex { C with hk := fun _ => false } cl (fun _ _ => .fail) fin fuel (.code (.region id ops dr) :: k) (joinS s s')
    | _ => .fail) (fun s' => fin (joinS s s')) fuel todo (roS s)
/-- Back to what lay. -/
theorem join_rel {K0 K K2 Kr K' : Gh} {w0 w w' : World} {s s' : St S} {a a' : Act} (hx : Ext K0 w0 K w) (hb : Below B w0 w) (hs : RelS C K w B s a)
    (hr : Kr.σ0 = some (K2.σ, fun j => a.tmps.getD j undef)) (h1 : Ext Kr w K' w') (h2' : Below w.heap.size w w') (h3 : RelS C K' w' w.heap.size s' a') : At C B K0 w0 (joinS s s') a' w' := by
  obtain ⟨y1, y2⟩ := hs.mem.called (σ' := K.σ) h2' (fun _ _ => rfl) (fun b q => hs.mem.new b (Nat.le_trans h2'.size q))
  refine ⟨K, hx.trans y1, hb.trans (h2'.mono hs.mem.base), ?_, fun j c v p q => ?_, h3.defers, y2⟩
  · show a'.tmps.size = (joinL s.tmps 0 s'.tmps).length
    rw [joinL_len]; exact h3.size
  · have q : (joinL s.tmps 0 s'.tmps)[j]? = some v := q
    rw [joinL_get, Nat.zero_add] at q
    cases hv : s'.tmps[j]? with
    | none => rw [hv] at q; cases q
    | some z =>
      rw [hv] at q
      simp only [Option.map_some, Option.some.injEq] at q
      subst q
      have hz := h3.tmps j c z p hv
      cases hz with
      | known i v x hk h =>
        simp only [joinV]
        cases hbq : Nat.beq i j with
        | false => exact .undef _
        | true =>
          have e : i = j := Nat.eq_of_beq_eq_true hbq
          subst e
          obtain ⟨F, f1, f2⟩ := hk
          have : F = (K2.σ, fun j => a.tmps.getD j undef) := by
            rcases h1.σ0 with q | q
            · rw [hr] at q; cases q
            · rw [f1, hr] at q; exact Option.some.inj q
          subst this
          rw [f2]
          exact (RepV.getD hs.size hs.tmps i).mono y1
      | @cell v t x h =>
        cases t with
        | bool => cases h; exact .cell (.bool _)
        | int k => cases h; exact .cell (.int _ _)
        | _ => exact .undef _
      | _ => exact .undef _
theorem seg_ok (hE : EnvOK C.E) (hT : TyOK C) (hS : ∀ f sp, C.spec f = some sp → SpecOK C f sp) (hC : ClOK C cl) (hM : C.P.follows .mixedOrders = true) {K0 : Gh} {w0 : World} {b : Frame} {cs : List Frame}
    {R : Type} {fin : St S → D R} {T : R → Act → World → Prop} (hF : ∀ s r a w, At C B K0 w0 s a w → (fin s).opt = some r → T r a w)
    {todo : List Item} {s : St S} {r : R} {a : Act} {w : World} (hk : itemsOk C todo = true) (hA : At C B K0 w0 s a w) (h : (sgW C h2 cl fin todo s).opt = some r) : Runs C.P b cs todo a w (T r) := by
  obtain ⟨K, x1, x2, x3⟩ := hA
  obtain ⟨K1, y1, s1, r1, _⟩ := frzB_ok (List.range s.mem.length) x3.mem
  obtain ⟨K2, y2, s2, r2, f2⟩ := freeze r1 (List.range s.mem.length)
  have hlen : (mark (frzB s.mem (List.range s.mem.length)) (List.range s.mem.length)).length = s.mem.length := by
    rw [← r2.n, s2.n, s1.n, x3.mem.n]
  have hxs := y1.trans y2
  let Kr : Gh := { gh0 K2.σ with σ0 := some (K2.σ, fun j => a.tmps.getD j undef) }
  have hxr : Ext (gh0 K2.σ) w Kr w := ⟨Nat.zero_le _, fun i hi => absurd hi (Nat.not_lt_zero i), fun _ => Nat.le_refl _, fun _ _ _ => rfl, fun _ _ _ h => keeps.of h, .inl rfl⟩
  have hmr : RelM C Kr w w.heap.size ([] : Mem S) := ⟨rfl, fun i o h => by simp at h, fun i j hi _ _ _ _ => absurd hi (Nat.not_lt_zero i), r2.new, r2.glob, Nat.le_refl _, (K2.σ, fun j => a.tmps.getD j undef), rfl, fun _ _ => rfl⟩
  have hro : RelS C Kr w w.heap.size (roS s) a := by
    refine ⟨?_, fun j c v p q => ?_, x3.defers, hmr⟩
    · show a.tmps.size = (roL _ 0 s.tmps).length
      rw [roL_len]; exact x3.size
    · have q : (roL _ 0 s.tmps)[j]? = some v := q
      rw [roL_get, Nat.zero_add] at q
      cases hv : s.tmps[j]? with
      | none => rw [hv] at q; cases q
      | some z =>
        rw [hv] at q
        simp only [Option.map_some, Option.some.injEq] at q
        subst q
        refine .known j c _ ⟨_, rfl, ?_⟩ ((roV_rep hE r2 (by rw [hlen]; exact f2) ((x3.tmps j c z p hv).mono hxs)).mono hxr)
        show c = a.tmps.getD j undef
        have hj := (Array.getElem?_eq_some_iff.1 p).1
        have := (Array.getElem?_eq_some_iff.1 p).2
        simp [Array.getD, hj, this]
  have hA2 : At { C with hk := h2 } w.heap.size Kr w (roS s) a w := ⟨Kr, .refl Kr w, Below.refl _ w, hro.hk⟩
  have back : ∀ s' a' w', At { C with hk := h2 } w.heap.size Kr w s' a' w' → At C B K0 w0 (joinS s s') a' w' := by
    rintro s' a' w' ⟨K', z1, z2, z3⟩
    exact join_rel (K2 := K2) x1 x2 x3 rfl z1 z2 z3.unhk
  have hio : ∀ t, itemsOk { C with hk := h2 } t = itemsOk C t := fun t => itemsOk_hk C h2 C.hk t
  refine ex_ok (C := { C with hk := h2 }) (B := w.heap.size) (K0 := Kr) (w0 := w) (b := b) (cs := cs) hE hT (fun f sp q => hS f sp q) hC.hk hM
    (fun c k s' r a' w' _ _ hh => by simp [D.opt] at hh)
    (fun id ops dr k s' r' a' w' hid hok hA' hh => ?_)
    (fun s' r a' w' hA' hh => hF _ _ _ _ (back _ _ _ hA') hh) fuel todo (roS s) r a w ((hio todo).trans hk) hA2 h
  refine ex_ok (C := { C with hk := fun _ => false }) (B := B) (K0 := K0) (w0 := w0) (b := b) (cs := cs) hE hT (fun f sp q => hS f sp q) hC.hk hM
    (fun c k s' r a' w' _ _ hh => by simp [D.opt] at hh)
    (fun id ops dr k s' r a' w' hid _ _ _ => by cases hid)
    (fun s' r a' w' hA' hh => hF _ _ _ _ hA'.unhk hh) fuel _ (joinS s s') r' a' w' ?_ (back _ _ _ hA').hk hh
  rw [← hok]; exact itemsOk_hk C _ _ _
end
section
variable (C : Ctx S) (h2 : Nat → Bool) (cl : Cl S) {R : Type}
def LfixS (hd : List Item → St S → Option (St S)) (fin : St S → D R) : Nat → Lp S R
  | 0 => fun _ _ => .fail
  | n + 1 => fun todo s => match todo with
    | .inLoop c :: k => ex C cl (canonL hd (LfixS hd fin n)) fin fuel (.code c :: .inLoop c :: k) s
    | .code c :: k => sgW C h2 cl fin (.code c :: k) s
    | _ => .fail
def runS (hd : List Item → St S → Option (St S)) (f : FuncId) (ts : List Ty) (de : List (Cell S) → Option R) (n : Nat) (args : List (V S)) : D R :=
  runW C cl (fun fin => canonL hd (LfixS C h2 cl hd fin n)) f ts de args
theorem runS_eq (hd : List Item → St S → Option (St S)) (f : FuncId) (ts : List Ty) (de : List (Cell S) → Option R) (n : Nat) (args : List (V S)) :
    runS C h2 cl hd f ts de n args = runW C cl (fun _ => canonL hd (LfixS C h2 cl hd (finW C f ts de) n)) f ts de args := by
  unfold runS runW finW
  cases body? C f with
  | none => rfl
  | some p => rfl
/-- The regions of a number, with what comes behind. -/
def hooksOf (i : Nat) : Code → List Item → Option (List Item)
  | .seq a b, k => (hooksOf i a (.code b :: k)).or (hooksOf i b k)
  | .cond _ x y, k => (hooksOf i x k).or (hooksOf i y k)
  | .block id b, k => hooksOf i b (.inBlock id :: k)
  | .scope b, k => hooksOf i b (.inScope b :: k)
  | .loop b, k => hooksOf i b (.inLoop b :: k)
  | .region id ops dr, k => bif Nat.beq id i then some (.code (.region id ops dr) :: k) else none
  | _, _ => none
def hkTodo (f : FuncId) (i : Nat) : List Item := match body? C f with
  | some (_, b) => (hooksOf i b []).getD []
  | none => []
def sgWF (fin : St S → D R) (todo : List Item) (s : St S) : D R :=
  fcT (roS s) fun s1 => exF { C with hk := h2 } cl (fun todo' s' => match todo' with
    | .code (.region id ops dr) :: k => fcT (joinS s s') fun s2 => exF { C with hk := fun _ => false } cl (fun _ _ => .fail) fin fuel (.code (.region id ops dr) :: k) s2
    | _ => .fail) (fun s' => fin (joinS s s')) fuel todo s1
theorem sgWF_eq (fin : St S → D R) (todo : List Item) (s : St S) : sgW C h2 cl fin todo s = sgWF C h2 cl fin todo s := by
  unfold sgWF sgW
  have e : (fun (todo' : List Item) (s' : St S) => match todo' with
    | .code (.region id ops dr) :: k => fcT (joinS s s') fun s2 => exF { C with hk := fun _ => false } cl (fun _ _ => .fail) fin fuel (.code (.region id ops dr) :: k) s2
    | _ => (.fail : D R)) = (fun todo' s' => match todo' with
    | .code (.region id ops dr) :: k => ex { C with hk := fun _ => false } cl (fun _ _ => .fail) fin fuel (.code (.region id ops dr) :: k) (joinS s s')
    | _ => .fail) := by
    funext todo' s'
    split
    · exact fcT_eq _ _ (fun s2 => ex { C with hk := fun _ => false } cl (fun _ _ => .fail) fin fuel _ s2) fun s h => exF_eq _ _ _ _ _ _ s h
    · rfl
  rw [e]
  exact (fcT_eq _ _ (fun s1 => ex { C with hk := h2 } cl _ _ fuel todo s1) fun s h => exF_eq _ _ _ _ _ _ s h).symm
theorem sgW_cl (d : Nat) (fin : St S → D R) (todo : List Item) (s : St S) : sgW C h2 (clD C d) fin todo s = sgWF C h2 (clDF C d) fin todo s := by
  rw [clDF_eq]; exact sgWF_eq C h2 _ fin todo s
end
section
variable {C : Ctx S} {cl : Cl S} {B : Nat} {h2 : Nat → Bool}
section
variable (hE : EnvOK C.E) (hT : TyOK C) (hS : ∀ f sp, C.spec f = some sp → SpecOK C f sp) (hC : ClOK C cl) (hM : C.P.follows .mixedOrders = true) {K0 : Gh} (hK0 : K0.n = 0) {w0 : World} {b : Frame} {cs : List Frame}
    {R : Type} {fin : St S → D R} {T : R → Act → World → Prop} {hd : List Item → St S → Option (St S)} (hH : HdOK C hd)
    (hF : ∀ s r a w, At C B K0 w0 s a w → (fin s).opt = some r → T r a w)
include hE hT hS hC hM hK0 hH hF

omit hE hT hS hC hM hF in
theorem canonS_ok {L : Lp S R} {todo todo' : List Item} (hL : ∀ s r a w, At C B K0 w0 s a w → (L todo s).opt = some r → Runs C.P b cs todo' a w (T r)) {s : St S} {r : R} {a : Act} {w : World} (hA : At C B K0 w0 s a w)
    (h : (canonL hd L todo s).opt = some r) : Runs C.P b cs todo' a w (T r) := by
  obtain ⟨s', hs', h⟩ := opt_ofOpt_bind h
  exact hL s' r a w (hH _ _ _ _ _ _ _ _ hK0 hA hs') h
theorem fixS_ok : ∀ (n : Nat), (∀ (c : Code) (k : List Item) (s : St S) (r : R) (a : Act) (w : World), itemsOk C (.inLoop c :: k) = true → At C B K0 w0 s a w → (LfixS C h2 cl hd fin n (.inLoop c :: k) s).opt = some r → Runs C.P b cs (.code c :: .inLoop c :: k) a w (T r)) ∧
    (∀ (c : Code) (k : List Item) (s : St S) (r : R) (a : Act) (w : World), itemsOk C (.code c :: k) = true → At C B K0 w0 s a w → (LfixS C h2 cl hd fin n (.code c :: k) s).opt = some r → Runs C.P b cs (.code c :: k) a w (T r))
  | 0 => ⟨fun c k s r a w _ _ h => by simp [LfixS, D.opt] at h, fun c k s r a w _ _ h => by simp [LfixS, D.opt] at h⟩
  | n + 1 => by
    obtain ⟨i1, i2⟩ := fixS_ok n
    refine ⟨fun c k s r a w hk hA h => ?_, fun c k s r a w hk hA h => ?_⟩
    · simp only [LfixS] at h
      refine ex_ok hE hT hS hC hM (fun c k s r a w h1 h2 h3 => canonS_ok hK0 hH (fun s r a w q1 q2 => i1 c k s r a w h1 q1 q2) h2 h3) (fun id ops dr k s r a w _ h1 h2 h3 => canonS_ok hK0 hH (fun s r a w q1 q2 => i2 _ k s r a w h1 q1 q2) h2 h3) hF fuel _ s r a w ?_ hA h
      simp only [itemsOk, itemOk, Bool.and_eq_true] at hk ⊢
      exact ⟨hk.1, hk.1, hk.2⟩
    · simp only [LfixS] at h
      exact seg_ok hE hT hS hC hM hF hk hA h
end
/-- A function's contract from its run, with a stretch that changes nothing of what lay. -/
theorem specS_ok (hE : EnvOK C.E) (hT : TyOK C) (hS : ∀ f sp, C.spec f = some sp → SpecOK C f sp) (hC : ClOK C cl) (hM : C.P.follows .mixedOrders = true) {hd : List Item → St S → Option (St S)} (hH : HdOK C hd)
    {f : FuncId} (hok : fnOk C f = true) {sp : Spec S} (ts : List Ty) (de : List (Cell S) → Option sp.R) (hde : ∀ cs r, de cs = some r → cs = sp.enc r)
    (hev : ∀ cs r, sp.run cs = some r → ∃ n, (runS C h2 cl hd f ts de n (cs.map fun c => encV C.E c.t c.x)).opt = some r) : SpecOK C f sp := by
  unfold fnOk at hok
  cases hfn : C.P.funcs[f]? with
  | none => rw [hfn] at hok; cases hok
  | some fn =>
    rw [hfn] at hok
    simp only at hok
    cases hb : fn.body with
    | none => rw [hb] at hok; cases hok
    | some c =>
      rw [hb] at hok
      simp only [Bool.and_eq_true] at hok
      obtain ⟨hc, hname⟩ := hok
      refine ⟨⟨fn, hfn, by rw [hb]; rfl, by simpa using hname⟩, fun σ w vs cs r hg hnew hargs hrun => ?_⟩
      obtain ⟨n, hn⟩ := hev cs r hrun
      have hbody : body? C f = some (fn, c) := by unfold body?; rw [hfn]; simp [hb]
      unfold runS runW at hn
      rw [hbody] at hn
      simp only at hn
      let K0 : Gh := { gh0 σ with σ0 := some (σ, fun _ => undef) }
      have hx0 : Ext (gh0 σ) w K0 w := ⟨Nat.zero_le _, fun i hi => absurd hi (Nat.not_lt_zero i), fun _ => Nat.le_refl _, fun _ _ _ => rfl, fun _ _ _ h => keeps.of h, .inl rfl⟩
      have hm0 : RelM C K0 w w.heap.size ([] : Mem S) := ⟨rfl, fun i o h => by simp at h, fun i j hi _ _ _ _ => absurd hi (Nat.not_lt_zero i), hnew, hg, Nat.le_refl _, (σ, fun _ => undef), rfl, fun _ _ => rfl⟩
      refine calls_of_runs hfn hb fun b fs => ?_
      have hF : ∀ s r a w', At C w.heap.size K0 w s a w' → (finR C fn ts de s).opt = some r → a.defers = [] ∧ ∃ v σ', (results fn a.tmps).run C.P w' = .ok v w' ∧ Below w.heap.size w w' ∧ (∀ b, b < w.heap.size → σ' b = σ b) ∧ (∀ b, w'.heap.size ≤ b → σ' b = 0) ∧ RepV C.E (gh0 σ') w' v (encAll C.E (sp.enc r)) := by
        rintro s r a w' ⟨K, x1, x2, x3⟩ hf
        obtain ⟨cs', h1, h2⟩ := opt_bind_some hf
        have h2' : de cs' = some r := by
          cases hd : de cs' with
          | none => rw [hd] at h2; simp [D.ofOpt, D.opt] at h2
          | some q => rw [hd] at h2; simp only [D.ofOpt, D.opt, Option.some.injEq] at h2; rw [h2]
        obtain ⟨v, K', g1, g2, ⟨m, g3⟩, g4⟩ := finT_rep hE x3 fn h1
        rw [hde cs' r h2'] at g4
        obtain ⟨F, f1, f2⟩ := g3.old
        have hxx := x1.trans g2
        have hF : F = (σ, fun _ => undef) := by
          rcases hxx.σ0 with q | q
          · cases q
          · rw [f1] at q; cases q; rfl
        subst hF
        exact ⟨x3.defers, v, K'.σ, g1, x2, f2, g3.new, g4⟩
      have hA : At C w.heap.size K0 w (st0 fn (cs.map fun c => encV C.E c.t c.x) []) { tmps := vs ++ Array.replicate (fn.ntmps - vs.size) undef, defers := [] } w := by
        refine ⟨K0, .refl K0 w, Below.refl _ w, RelS.start hm0 fn (by simpa using hargs.1) fun j v y p q => ?_⟩
        rw [List.getElem?_map] at q
        cases hcj : cs[j]? with
        | none => rw [hcj] at q; simp at q
        | some c =>
          rw [hcj] at q
          simp only [Option.map_some, Option.some.injEq] at q
          subst q
          exact (hargs.2 j v c p hcj).mono hx0
      obtain ⟨a', w', t', ⟨hd', v, σ', q1, q2, q3, q4, q5⟩, st⟩ := ex_ok (b := b) (cs := fs) hE hT hS hC hM (fun c k s r a wn h1 h2 h3 => canonS_ok (T := fun r a w' => a.defers = [] ∧ ∃ v σ', (results fn a.tmps).run C.P w' = .ok v w' ∧ Below w.heap.size w w' ∧ (∀ b, b < w.heap.size → σ' b = σ b) ∧ (∀ b, w'.heap.size ≤ b → σ' b = 0) ∧ RepV C.E (gh0 σ') w' v (encAll C.E (sp.enc r))) rfl hH (fun s r a w q1 q2 => (fixS_ok hE hT hS hC hM rfl hH hF n).1 c k s r a w h1 q1 q2) h2 h3) (fun id ops dr k s r a wn _ h1 h2 h3 => canonS_ok rfl hH (fun s r a w q1 q2 => (fixS_ok hE hT hS hC hM rfl hH hF n).2 _ k s r a w h1 q1 q2) h2 h3) hF fuel [.code c] _ r _ w (by simp [itemsOk, itemOk, hc]) hA hn
      exact ⟨a', w', t', ⟨hd', v, q1, v, σ', rfl, q2, q3, q4, q5⟩, st⟩
end
end Go.Lv
namespace Go.Lv
set_option linter.all false
open Go Go.RowKit
variable {S : Nat → Type}
/-! Contracts of functions that take closures, or capture boxes: the boxes are held, and don't turn from then on. -/
inductive Pat where
  | t (T : Ty)
  | clo (g : FuncId) (ids : List Nat)
  | ptr (k : Nat)
inductive Bx where
  | t (T : Ty)
  | clo (g : FuncId) (ids : List Nat)
structure CSpec (S : Nat → Type) where
  pats : List Pat
  boxes : List Bx
  R : Type
  run : List (Cell S) → List (Cell S) → Option R
  enc : R → List (Cell S)
/-- The callee's own view. -/
def ptrs (ids : List Nat) : List (V S) := ids.map fun k => .ptr k 0
def patV (E : Env S) : List Pat → List (Cell S) → List (V S)
  | [], _ => []
  | .t _ :: ps, c :: cs => encV E c.t c.x :: patV E ps cs
  | .t _ :: ps, [] => .undef :: patV E ps []
  | .clo g ids :: ps, cs => .clo g [] (ptrs ids) :: patV E ps cs
  | .ptr k :: ps, cs => .ptr k 0 :: patV E ps cs
def boxM (E : Env S) : List Bx → List (Cell S) → Mem S
  | [], _ => []
  | .t _ :: ps, c :: cs => .box (encV E c.t c.x).cells true :: boxM E ps cs
  | .t _ :: ps, [] => .box [] true :: boxM E ps []
  | .clo g ids :: ps, cs => .box [.clo g [] (ptrs ids)] true :: boxM E ps cs
theorem patV_len (E : Env S) : ∀ (ps : List Pat) (cs : List (Cell S)), (patV E ps cs).length = ps.length
  | [], _ => rfl
  | .t _ :: ps, _ :: cs => by simp only [patV, List.length_cons, patV_len E ps cs]
  | .t _ :: ps, [] => by simp only [patV, List.length_cons, patV_len E ps []]
  | .clo _ _ :: ps, cs => by simp only [patV, List.length_cons, patV_len E ps cs]
  | .ptr _ :: ps, cs => by simp only [patV, List.length_cons, patV_len E ps cs]
def ghB (n : Nat) (bl : Nat → Nat) (σ : Nat → Nat) : Gh := { n := n, ι := bl, hv := fun _ => .nilIface, gen := fun _ => 0, esz := fun _ => 0, live := fun _ => true, σ := σ, σ0 := some (σ, fun _ => undef) }
def CSpecOK (C : Ctx S) (f : FuncId) (sp : CSpec S) : Prop := Enters C.P f ∧
  ∀ (σ : Nat → Nat) (w : World) (vs : Array Value) (bl : Nat → Nat) (as bs : List (Cell S)) (r : sp.R), RelM C (ghB sp.boxes.length bl σ) w w.heap.size (boxM C.E sp.boxes bs) → vs.size = sp.pats.length →
    (∀ (j : Nat) (v : Value) (y : V S), vs[j]? = some v → (patV C.E sp.pats as)[j]? = some y → RepV C.E (ghB sp.boxes.length bl σ) w v y) → sp.run as bs = some r →
    Calls C.P f vs w fun e w' => ∃ v σ', e = .returned v ∧ Below w.heap.size w w' ∧ (∀ b, b < w.heap.size → σ' b = σ b) ∧ (∀ b, w'.heap.size ≤ b → σ' b = 0) ∧ RepV C.E (gh0 σ') w' v (encAll C.E (sp.enc r))
/-! The caller's view. -/
def matchP (ρ : List Nat) : List Nat → List (V S) → Bool
  | [], [] => true
  | k :: ks, .ptr id off :: vs => (match ρ[k]? with | some i => Nat.beq i id | none => false) && (Nat.beq off 0 && matchP ρ ks vs)
  | _, _ => false
def zipI : List Nat → List (V S) → List (Nat × Nat)
  | k :: ks, .ptr id _ :: vs => (k, id) :: zipI ks vs
  | _, _ => []
def pairsOf : List Pat → List (V S) → List (Nat × Nat)
  | .ptr k :: ps, .ptr id _ :: vs => (k, id) :: pairsOf ps vs
  | .clo _ ids :: ps, .clo _ _ caps :: vs => zipI ids caps ++ pairsOf ps vs
  | _ :: ps, _ :: vs => pairsOf ps vs
  | _, _ => []
def lookN : List (Nat × Nat) → Nat → Nat
  | [], _ => 0
  | p :: r, k => bif Nat.beq p.1 k then p.2 else lookN r k
def rhoF (n : Nat) (l : List (Nat × Nat)) : Nat → List Nat
  | 0 => []
  | m + 1 => lookN l (n - (m + 1)) :: rhoF n l m
def nodupB : List Nat → Bool
  | [] => true
  | x :: r => !(inL r x) && nodupB r
def patsOK (ρ : List Nat) : List Pat → List (V S) → Bool
  | [], [] => true
  | .t _ :: ps, _ :: vs => patsOK ρ ps vs
  | .clo g ids :: ps, .clo g' [] caps :: vs => Nat.beq g g' && (matchP ρ ids caps && patsOK ρ ps vs)
  | .ptr k :: ps, v :: vs => matchP ρ [k] [v] && patsOK ρ ps vs
  | _, _ => false
def ownsP : List Pat → List (V S) → List Nat
  | .t _ :: ps, v :: vs => v.owns ++ ownsP ps vs
  | _ :: ps, _ :: vs => ownsP ps vs
  | _, _ => []
def decP (E : Env S) (m : Mem S) : List Pat → List (V S) → Option (List (Cell S))
  | [], _ => some []
  | .t T :: ps, v :: vs => (dec E m T v).bind fun x => (decP E m ps vs).bind fun r => some (⟨T, x⟩ :: r)
  | _ :: ps, _ :: vs => decP E m ps vs
  | _, _ => none
/-- What a box holds, as one value. -/
def boxV (E : Env S) (T : Ty) (cs : List (V S)) : Option (V S) := if cs.length = tsize E T then (bif isStT T then some (.agg cs) else cs[0]?) else none
def decB (E : Env S) (m : Mem S) (ρ : List Nat) : List Bx → List Nat → Option (List (Cell S))
  | [], [] => some []
  | .t T :: ps, id :: ids => match m[id]? with
    | some (.box cs _) => (boxV E T cs).bind fun v => if v.owns = [] then (dec E m T v).bind fun x => (decB E m ρ ps ids).bind fun r => some (⟨T, x⟩ :: r) else none
    | _ => none
  | .clo g ks :: ps, id :: ids => match m[id]? with
    | some (.box [.clo g' [] caps] _) => if Nat.beq g g' && matchP ρ ks caps then decB E m ρ ps ids else none
    | _ => none
  | _, _ => none
def semCC (C : Ctx S) (m : Mem S) (sp : CSpec S) (args : List (V S)) : D (V S × Mem S) :=
  let ρ := rhoF sp.boxes.length (pairsOf sp.pats args) sp.boxes.length
  if (nodupB ρ && patsOK ρ sp.pats args) = true then
    (D.ofOpt (decP C.E m sp.pats args)).bind fun as => (D.ofOpt (decB C.E m ρ sp.boxes ρ)).bind fun bs => .call (sp.run as bs) fun r => .ret (encAll C.E (sp.enc r), frzB (mark m (ownsP sp.pats args)) ρ)
  else .fail
def cspL : List (Nat × CSpec S) → Nat → Option (CSpec S)
  | [], _ => none
  | p :: r, g => bif Nat.beq p.1 g then some p.2 else cspL r g
def ccCl (C : Ctx S) (l : List (Nat × CSpec S)) (base : Cl S) : Cl S := fun f args m => match cspL l f with
  | some sp => semCC C m sp args
  | none => base f args m
section
variable {C : Ctx S} {K : Gh} {w : World} {B : Nat} {m : Mem S}
variable {G : Gh} {ρ : List Nat}
theorem matchP_rep (hptr : ∀ k id v, ρ[k]? = some id → RepV C.E K w v (.ptr id 0) → RepV C.E G w v (.ptr k 0)) : ∀ (ks : List Nat) (caps : List (V S)) (vals : List Value), matchP ρ ks caps = true → vals.length = caps.length →
    (∀ (j : Nat) (v : Value) (y : V S), vals[j]? = some v → caps[j]? = some y → RepV C.E K w v y) → vals.length = (ptrs (S := S) ks).length ∧ ∀ (j : Nat) (v : Value) (y : V S), vals[j]? = some v → (ptrs ks)[j]? = some y → RepV C.E G w v y
  | [], [], vals, _, hl, _ => ⟨hl, fun j v y _ q => by simp [ptrs] at q⟩
  | k :: ks, [], vals, h, _, _ => by simp [matchP] at h
  | [], _ :: _, vals, h, _, _ => by simp [matchP] at h
  | k :: ks, c :: caps, vals, h, hl, hr => by
    cases vals with
    | nil => simp at hl
    | cons v0 vals =>
      cases c <;> simp only [matchP, Bool.false_eq_true] at h
      rename_i id off
      simp only [Bool.and_eq_true] at h
      obtain ⟨h1, h2, h3⟩ := h
      obtain ⟨i1, i2⟩ := matchP_rep hptr ks caps vals h3 (by simpa using hl) (fun j v y p q => hr (j + 1) v y (by simpa using p) (by simpa using q))
      have hoff := Nat.eq_of_beq_eq_true h2
      subst hoff
      have hk : ρ[k]? = some id := by
        split at h1
        · rename_i i hi; rw [hi, Nat.eq_of_beq_eq_true h1]
        · cases h1
      refine ⟨by simp only [List.length_cons, i1, ptrs, List.map_cons], fun j v y p q => ?_⟩
      cases j with
      | zero =>
        simp only [List.getElem?_cons_zero, Option.some.injEq, ptrs, List.map_cons] at p q
        subst p q
        exact hptr k id _ hk (hr 0 _ _ rfl rfl)
      | succ j => exact i2 j v y (by simpa using p) (by simpa [ptrs] using q)
theorem patP_rep (hE : EnvOK C.E) (h : RelM C K w B m) (hup : ∀ v (T : Ty) (y : den S T), RepV C.E (gh0 K.σ) w v (encV C.E T y) → RepV C.E G w v (encV C.E T y)) (hptr : ∀ k id v, ρ[k]? = some id → RepV C.E K w v (.ptr id 0) → RepV C.E G w v (.ptr k 0)) :
    ∀ (ps : List Pat) (args : List (V S)) (as : List (Cell S)) (vs : List Value), vs.length = args.length → (∀ (j : Nat) (v : Value) (y : V S), vs[j]? = some v → args[j]? = some y → RepV C.E K w v y) → Frz C.E K m (ownsP ps args) → patsOK ρ ps args = true → decP C.E m ps args = some as →
    vs.length = ps.length ∧ ∀ (j : Nat) (v : Value) (y : V S), vs[j]? = some v → (patV C.E ps as)[j]? = some y → RepV C.E G w v y
  | [], [], as, vs, hl, _, _, _, _ => ⟨hl, fun j v y _ q => by simp [patV] at q⟩
  | [], _ :: _, as, vs, hl, _, _, ho, _ => by simp [patsOK] at ho
  | p :: ps, [], as, vs, hl, _, _, ho, _ => by cases p <;> simp [patsOK] at ho
  | p :: ps, x :: args, as, vs, hl, hr, hf, ho, hd => by
    cases vs with
    | nil => simp at hl
    | cons v0 vs =>
      have hr' : ∀ (j : Nat) (v : Value) (y : V S), vs[j]? = some v → args[j]? = some y → RepV C.E K w v y := fun j v y p q => hr (j + 1) v y (by simpa using p) (by simpa using q)
      have hl' : vs.length = args.length := by simpa using hl
      cases p with
      | t T =>
        simp only [decP] at hd
        obtain ⟨y, h1, hd⟩ := bsome hd
        obtain ⟨r, h2, hd⟩ := bsome hd
        cases hd
        have ho' : patsOK ρ ps args = true := by cases x <;> exact ho
        obtain ⟨i1, i2⟩ := patP_rep hE h hup hptr ps args r vs hl' hr' (fun id hid => hf id (by simp only [ownsP, List.mem_append]; exact .inr hid)) ho' h2
        refine ⟨by simp [i1], fun j v z p q => ?_⟩
        cases j with
        | zero =>
          simp only [List.getElem?_cons_zero, Option.some.injEq, patV] at p q
          subst p q
          exact hup _ _ _ (enc_gh0 (dec_rep hE h (hr 0 _ x rfl rfl) h1 fun id hid => hf id (by simp only [ownsP, List.mem_append]; exact .inl hid)))
        | succ j => exact i2 j v z (by simpa using p) (by simpa [patV] using q)
      | clo g ids =>
        cases x <;> try (simp [patsOK] at ho; done)
        rename_i g' first caps
        cases first with
        | cons _ _ => exact absurd ho (by simp [patsOK])
        | nil =>
          simp only [patsOK, Bool.and_eq_true] at ho
          obtain ⟨o1, o2, o3⟩ := ho
          simp only [decP] at hd
          obtain ⟨i1, i2⟩ := patP_rep hE h hup hptr ps args as vs hl' hr' (fun id hid => hf id (by simpa only [ownsP] using hid)) o3 hd
          have hg := Nat.eq_of_beq_eq_true o1
          subst hg
          refine ⟨by simp [i1], fun j v z p q => ?_⟩
          cases j with
          | zero =>
            simp only [List.getElem?_cons_zero, Option.some.injEq, patV] at p q
            subst p q
            have h0 := hr 0 _ _ rfl rfl
            cases h0 with
            | clo _ fs cs _ _ e1 e2 hf' hc' =>
              obtain ⟨m1, m2⟩ := matchP_rep hptr ids caps cs.toList o2 (by simpa using e2) (fun j v y p q => hc' j v y (by simpa using p) q)
              exact .clo g fs cs [] (ptrs ids) e1 (by simpa using m1) (fun j c v _ q => by simp at q) fun j c v p q => m2 j c v (by simpa using p) q
          | succ j => exact i2 j v z (by simpa using p) (by simpa [patV] using q)
      | ptr k =>
        have ho' : matchP ρ [k] [x] = true ∧ patsOK ρ ps args = true := by
          cases x <;> simpa only [patsOK, Bool.and_eq_true] using ho
        have hd' : decP C.E m ps args = some as := by cases x <;> exact hd
        have hf' : Frz C.E K m (ownsP ps args) := fun id hid => hf id (by cases x <;> exact hid)
        obtain ⟨i1, i2⟩ := patP_rep hE h hup hptr ps args as vs hl' hr' hf' ho'.2 hd'
        refine ⟨by simp [i1], fun j v z p q => ?_⟩
        cases j with
        | zero =>
          simp only [List.getElem?_cons_zero, Option.some.injEq, patV] at p q
          subst p q
          obtain ⟨m1, m2⟩ := matchP_rep hptr [k] [x] [v0] ho'.1 rfl (fun j v y p q => by
            cases j with
            | zero => simp only [List.getElem?_cons_zero, Option.some.injEq] at p q; subst p q; exact hr 0 _ _ rfl rfl
            | succ j => simp at p)
          exact m2 0 _ _ rfl rfl
        | succ j => exact i2 j v z (by simpa using p) (by simpa [patV] using q)
/-- What a box of the callee's is. -/
def BoxB (C : Ctx S) (K G : Gh) (w : World) (m : Mem S) (id : Nat) (o : Ob S) : Prop := ∃ ys cs fz c e, o = .box ys true ∧ m[id]? = some (.box cs fz) ∧ w.heap[K.ι id]? = some (.cells c e (0, 0)) ∧ c.size = ys.length ∧
  ∀ (j : Nat) (v : Value) (y : V S), c[j]? = some v → ys[j]? = some y → RepV C.E G w v y
theorem boxV_rep (hE : EnvOK C.E) (h : RelM C K w B m) {id : Nat} {cs : List (V S)} {fz : Bool} (hm : m[id]? = some (.box cs fz)) {T : Ty} {v : V S} (hv : boxV C.E T cs = some v) (hv2 : v.owns = []) {x : den S T} (hx : dec C.E m T v = some x)
    (hup : ∀ v (T : Ty) (y : den S T), RepV C.E (gh0 K.σ) w v (encV C.E T y) → RepV C.E G w v (encV C.E T y)) : BoxB C K G w m id (.box (encV C.E T x).cells true) := by
  obtain ⟨hg, hl, c, e, p1, p2, p3, p4, p5⟩ := h.ob id _ hm
  have hcl : (encV C.E T x).cells.length = tsize C.E T := by rw [encV_cells, elemCells_eq, List.length_map, cellsOf_len hE]
  have hfr : Frz C.E K m v.owns := fun id hid => by rw [hv2] at hid; cases hid
  have hdd : (encV C.E T x).defd = true := by cases T <;> rfl
  unfold boxV at hv
  split at hv
  · rename_i hlen
    refine ⟨_, cs, fz, c, e, rfl, hm, p1, by rw [hcl, p2, hlen], ?_⟩
    cases hst : isStT T with
    | true =>
      rw [hst] at hv
      simp only [cond_true, Option.some.injEq] at hv
      subst hv
      have r0 : RepV C.E K w (.agg c) (.agg cs) := .agg c cs p2 p3
      have r1 := hup _ _ _ (enc_gh0 (dec_rep hE h r0 hx hfr))
      exact (r1.cells hdd).2
    | false =>
      rw [hst] at hv
      simp only [cond_false] at hv
      have h1 : tsize C.E T = 1 := by cases T <;> first | rfl | exact absurd hst (by simp [isStT])
      have hc1 : 0 < c.size := by omega
      have hv0 : v.one = true := by
        have : ∀ t : Ty, (∃ y, decLeaf m t v = some y) → v.one = true := by
          rintro t ⟨y, hy⟩
          cases v <;> first | rfl | (simp [decLeaf] at hy)
        refine this T ?_
        cases T <;> first | exact ⟨_, hx⟩ | exact absurd hst (by simp [isStT])
      have r0 := p3 0 c[0] v (by simp [hc1]) hv
      have r1 := hup _ _ _ (enc_gh0 (dec_rep hE h r0 hx hfr))
      intro j u y hu hy
      have hj : j = 0 := by
        have := (List.getElem?_eq_some_iff.1 hy).1
        rw [hcl] at this; omega
      subst hj
      have hu0 : u = c[0] := by simpa [hc1] using hu.symm
      refine (r1.cells hdd).2 0 u y ?_ hy
      rw [oneCells (r0.oneCell hv0), hu0]; rfl
  · cases hv
theorem decB_ok (hE : EnvOK C.E) (h : RelM C K w B m) (hup : ∀ v (T : Ty) (y : den S T), RepV C.E (gh0 K.σ) w v (encV C.E T y) → RepV C.E G w v (encV C.E T y)) (hptr : ∀ k id v, ρ[k]? = some id → RepV C.E K w v (.ptr id 0) → RepV C.E G w v (.ptr k 0)) :
    ∀ (bx : List Bx) (ids : List Nat) (bs : List (Cell S)), decB C.E m ρ bx ids = some bs → ids.length = bx.length ∧ (boxM C.E bx bs).length = bx.length ∧ ∀ (j : Nat) (o : Ob S) (id : Nat), (boxM C.E bx bs)[j]? = some o → ids[j]? = some id → BoxB C K G w m id o
  | [], [], bs, hd => ⟨rfl, rfl, fun j o id q => by simp [boxM] at q⟩
  | [], _ :: _, bs, hd => by simp [decB] at hd
  | b :: bx, [], bs, hd => by cases b <;> simp [decB] at hd
  | b :: bx, id :: ids, bs, hd => by
    cases b with
    | t T =>
      simp only [decB] at hd
      split at hd
      · rename_i cs fz hm
        obtain ⟨v, hv, hd⟩ := bsome hd
        split at hd
        · rename_i hv2
          obtain ⟨x, hx, hd⟩ := bsome hd
          obtain ⟨r, hr, hd⟩ := bsome hd
          cases hd
          obtain ⟨i1, i2, i3⟩ := decB_ok hE h hup hptr bx ids r hr
          refine ⟨by simp [i1], by simp [boxM, i2], fun j o id' p q => ?_⟩
          cases j with
          | zero =>
            simp only [boxM, List.getElem?_cons_zero, Option.some.injEq] at p q
            subst p q
            exact boxV_rep hE h hm hv hv2 hx hup
          | succ j => exact i3 j o id' (by simpa [boxM] using p) (by simpa using q)
        · cases hd
      · cases hd
    | clo g ks =>
      simp only [decB] at hd
      split at hd
      · rename_i g' caps fz hm
        split at hd
        · rename_i hc
          simp only [Bool.and_eq_true] at hc
          obtain ⟨c1, c2⟩ := hc
          have hg := Nat.eq_of_beq_eq_true c1
          subst hg
          obtain ⟨i1, i2, i3⟩ := decB_ok hE h hup hptr bx ids bs hd
          refine ⟨by simp [i1], by simp [boxM, i2], fun j o id' p q => ?_⟩
          cases j with
          | zero =>
            simp only [boxM, List.getElem?_cons_zero, Option.some.injEq] at p q
            subst p q
            obtain ⟨hgg, hl, c, e, p1, p2, p3, p4, p5⟩ := h.ob id _ hm
            refine ⟨_, _, fz, c, e, rfl, hm, p1, by simpa using p2, fun j v y hv hy => ?_⟩
            cases j with
            | succ j => simp at hy
            | zero =>
              simp only [List.getElem?_cons_zero, Option.some.injEq] at hy
              subst hy
              have r0 := p3 0 v _ hv rfl
              cases r0 with
              | clo _ fs vs _ _ e1 e2 hf' hc' =>
                obtain ⟨m1, m2⟩ := matchP_rep hptr ks caps vs.toList c2 (by simpa using e2) (fun j v y p q => hc' j v y (by simpa using p) q)
                exact .clo g fs vs [] (ptrs ks) e1 (by simpa using m1) (fun j c v _ q => by simp at q) fun j c v p q => m2 j c v (by simpa using p) q
          | succ j => exact i3 j o id' (by simpa [boxM] using p) (by simpa using q)
        · cases hd
      · cases hd
theorem inL_iff : ∀ {l : List Nat} {x : Nat}, inL l x = true ↔ x ∈ l
  | [], x => by simp [inL]
  | y :: r, x => by
    rw [List.mem_cons, ← inL_iff (l := r)]
    show (x.beq y || inL r x) = true ↔ _
    rw [Bool.or_eq_true]
    exact ⟨fun h => h.imp Nat.eq_of_beq_eq_true id, fun h => h.imp (fun e => by rw [e]; exact Nat.beq_refl y) id⟩
theorem nodupB_inj : ∀ {l : List Nat}, nodupB l = true → ∀ (i j x : Nat), l[i]? = some x → l[j]? = some x → i = j
  | [], _, i, j, x, h1, _ => by simp at h1
  | y :: r, h, i, j, x, h1, h2 => by
    simp only [nodupB, Bool.and_eq_true, Bool.not_eq_true'] at h
    obtain ⟨h0, h⟩ := h
    have hn : y ∉ r := fun q => by rw [inL_iff.2 q] at h0; cases h0
    cases i with
    | zero =>
      cases j with
      | zero => rfl
      | succ j =>
        simp only [List.getElem?_cons_zero, Option.some.injEq, List.getElem?_cons_succ] at h1 h2
        subst h1
        exact absurd (List.mem_of_getElem? h2) hn
    | succ i =>
      cases j with
      | zero =>
        simp only [List.getElem?_cons_zero, Option.some.injEq, List.getElem?_cons_succ] at h1 h2
        subst h2
        exact absurd (List.mem_of_getElem? h1) hn
      | succ j => exact congrArg (· + 1) (nodupB_inj h i j x (by simpa using h1) (by simpa using h2))
theorem decP_like {m' : Mem S} (hl : ∀ (T : Ty) (x : V S), dec C.E m' T x = dec C.E m T x) : ∀ (ps : List Pat) (args : List (V S)), decP C.E m' ps args = decP C.E m ps args
  | [], _ => by simp [decP]
  | .t T :: ps, [] => rfl
  | .clo _ _ :: ps, [] => rfl
  | .ptr _ :: ps, [] => rfl
  | .t T :: ps, x :: args => by simp only [decP, hl, decP_like hl ps args]
  | .clo _ _ :: ps, x :: args => by simp only [decP, decP_like hl ps args]
  | .ptr _ :: ps, x :: args => by simp only [decP, decP_like hl ps args]
theorem mark_box' {id : Nat} (ids : List Nat) {cs : List (V S)} {fz : Bool} (h : m[id]? = some (.box cs fz)) : (mark m ids)[id]? = some (.box cs fz) := mark_box h
theorem decB_mark (ids0 : List Nat) : ∀ (bx : List Bx) (ids : List Nat) (bs : List (Cell S)), decB C.E m ρ bx ids = some bs → decB C.E (mark m ids0) ρ bx ids = some bs
  | [], [], bs, hd => hd
  | [], _ :: _, bs, hd => by simp [decB] at hd
  | b :: bx, [], bs, hd => by cases b <;> simp [decB] at hd
  | b :: bx, id :: ids, bs, hd => by
    cases b with
    | t T =>
      simp only [decB] at hd ⊢
      split at hd
      · rename_i cs fz hm
        obtain ⟨v, hv, hd⟩ := bsome hd
        split at hd
        · rename_i hv2
          obtain ⟨x, hx, hd⟩ := bsome hd
          obtain ⟨r, hr, hd⟩ := bsome hd
          cases hd
          rw [mark_box' ids0 hm]
          simp only [hv, Option.bind_some, hv2, if_true, dec_marks, hx, decB_mark ids0 bx ids r hr]
        · cases hd
      · cases hd
    | clo g ks =>
      simp only [decB] at hd ⊢
      split at hd
      · rename_i g' caps fz hm
        split at hd
        · rename_i hc
          rw [mark_box' ids0 hm]
          simp only [hc, if_true, decB_mark ids0 bx ids bs hd]
        · cases hd
      · cases hd
theorem semCC_ok (hE : EnvOK C.E) (h : RelM C K w B m) {f : FuncId} {sp : CSpec S} (hsp : CSpecOK C f sp) {args : List (V S)} {vs : Array Value} {x : V S} {m' : Mem S} (hl : vs.size = args.length)
    (hr : ∀ (j : Nat) (v : Value) (y : V S), vs[j]? = some v → args[j]? = some y → RepV C.E K w v y) (hx : (semCC C m sp args).opt = some (x, m')) :
    Calls C.P f vs w fun e w' => ∃ v K', e = .returned v ∧ Ext K w K' w' ∧ Below B w w' ∧ RelM C K' w' B m' ∧ RepV C.E K' w' v x := by
  unfold semCC at hx
  simp only at hx
  generalize hρ : rhoF sp.boxes.length (pairsOf sp.pats args) sp.boxes.length = ρ at hx
  split at hx
  · rename_i hc
    simp only [Bool.and_eq_true] at hc
    obtain ⟨hn, hp⟩ := hc
    obtain ⟨as, has, hx⟩ := opt_ofOpt_bind hx
    obtain ⟨bs, hbs, hx⟩ := opt_ofOpt_bind hx
    simp only [D.opt] at hx
    cases hrun : sp.run as bs with
    | none => rw [hrun] at hx; simp at hx
    | some r =>
      rw [hrun] at hx
      simp only [Option.bind_some, D.opt, Option.some.injEq, Prod.mk.injEq] at hx
      obtain ⟨rfl, rfl⟩ := hx
      obtain ⟨hen, hspec⟩ := hsp
      obtain ⟨K1, x1, s1, r1, f1⟩ := freeze h (ownsP sp.pats args)
      obtain ⟨K2, x2, s2, r2, f2⟩ := frzB_ok ρ r1
      have hr1 : ∀ (j : Nat) (v : Value) (y : V S), vs.toList[j]? = some v → args[j]? = some y → RepV C.E K1 w v y := fun j v y p q => (hr j v y (by simpa using p) q).mono x1
      have has' : decP C.E (mark m (ownsP sp.pats args)) sp.pats args = some as := (decP_like (fun T x => dec_marks m _ T x) _ _).trans has
      have hbs' := decB_mark (ownsP sp.pats args) _ _ _ hbs
      let bl : Nat → Nat := fun k => match ρ[k]? with | some id => K2.ι id | none => 0
      let G := ghB sp.boxes.length bl K2.σ
      have hxG : Ext (gh0 K1.σ) w G w := ⟨Nat.zero_le _, fun i hi => absurd hi (Nat.not_lt_zero i), x2.σ, fun _ _ _ => rfl, fun _ _ _ q => keeps.of q, .inl rfl⟩
      have hup : ∀ v (T : Ty) (y : den S T), RepV C.E (gh0 K1.σ) w v (encV C.E T y) → RepV C.E G w v (encV C.E T y) := fun v T y q => q.mono hxG
      have hlen : ρ.length = sp.boxes.length := by
        rw [← hρ]
        have : ∀ m, (rhoF sp.boxes.length (pairsOf sp.pats args) m).length = m := by
          intro m; induction m with
          | zero => rfl
          | succ m ih => simp only [rhoF, List.length_cons, ih]
        exact this _
      -- all that is held
      have key : ∀ (bx : List Bx) (ids : List Nat) (bs : List (Cell S)), decB C.E (mark m (ownsP sp.pats args)) ρ bx ids = some bs → ∀ id, id ∈ ids → ∃ cs fz, (mark m (ownsP sp.pats args))[id]? = some (.box cs fz) := by
        intro bx
        induction bx with
        | nil => intro ids bs hd id hid; cases ids with | nil => cases hid | cons _ _ => simp [decB] at hd
        | cons b bx ih =>
          intro ids bs hd id hid
          cases ids with
          | nil => cases hid
          | cons i ids =>
            cases b with
            | t T =>
              simp only [decB] at hd
              split at hd
              · rename_i cs fz hm
                obtain ⟨v, hv, hd⟩ := bsome hd
                split at hd
                · obtain ⟨x, hx, hd⟩ := bsome hd
                  obtain ⟨r, hr, hd⟩ := bsome hd
                  rcases List.mem_cons.1 hid with q | q
                  · exact ⟨cs, fz, by rw [q]; exact hm⟩
                  · exact ih ids r hr id q
                · cases hd
              · cases hd
            | clo g ks =>
              simp only [decB] at hd
              split at hd
              · rename_i g' caps fz hm
                split at hd
                · rcases List.mem_cons.1 hid with q | q
                  · exact ⟨_, fz, by rw [q]; exact hm⟩
                  · exact ih ids bs hd id q
                · cases hd
              · cases hd
      have hbox : ∀ k id, ρ[k]? = some id → K1.gen id = 0 := fun k id q => by
        obtain ⟨cs, fz, hm⟩ := key _ _ _ hbs' id (List.mem_of_getElem? q)
        exact (r1.ob id _ hm).1
      have hptr : ∀ k id v, ρ[k]? = some id → RepV C.E K1 w v (.ptr id 0) → RepV C.E G w v (.ptr k 0) := by
        intro k id v hk hv
        cases hv with
        | ptr _ _ _ hn' hp' hh =>
          refine .ptr k 0 v (by show k < sp.boxes.length; rw [← hlen]; exact (List.getElem?_eq_some_iff.1 hk).1) hp' fun _ => ?_
          rw [hh (hbox k id hk)]
          show _ = Value.pointer (some ⟨bl k, 0, none⟩)
          simp only [bl, hk, s2.ι]
      obtain ⟨a1, a2⟩ := patP_rep hE r1 hup hptr sp.pats args as vs.toList (by simpa using hl) hr1 f1 hp has'
      obtain ⟨b1, b2, b3⟩ := decB_ok hE r1 hup hptr sp.boxes ρ bs hbs'
      have hG : RelM C G w w.heap.size (boxM C.E sp.boxes bs) := by
        refine ⟨b2.symm, fun k o hk => ?_, fun i j hi hj _ _ e => ?_, r2.new, r2.glob, Nat.le_refl _, (K2.σ, fun _ => undef), rfl, fun _ _ => rfl⟩
        · have hk' : k < ρ.length := by rw [hlen, ← b2]; exact (List.getElem?_eq_some_iff.1 hk).1
          obtain ⟨ys, cs, fz, c, e, rfl, hm, q1, q2, q3⟩ := b3 k o ρ[k] hk (List.getElem?_eq_getElem hk')
          obtain ⟨fz', g1, _, g3⟩ := f2 _ cs fz hm
          have gt := g3 (List.getElem_mem hk')
          subst gt
          obtain ⟨hg, hlv, c', e', p1, p2, p3, p4, p5⟩ := r2.ob _ _ g1
          have hbl : G.ι k = K2.ι ρ[k] := by show bl k = _; simp only [bl, List.getElem?_eq_getElem hk']
          have hcc : c' = c := by rw [s2.ι] at p1; rw [p1] at q1; cases q1; rfl
          subst hcc
          exact ⟨rfl, rfl, c', e', by rw [hbl]; exact p1, q2, q3, fun q => (by cases q), fun _ => by rw [hbl]; exact p5 rfl⟩
        · have hi' : i < ρ.length := by rw [hlen]; exact hi
          have hj' : j < ρ.length := by rw [hlen]; exact hj
          have ei : G.ι i = K2.ι ρ[i] := by show bl i = _; simp only [bl, List.getElem?_eq_getElem hi']
          have ej : G.ι j = K2.ι ρ[j] := by show bl j = _; simp only [bl, List.getElem?_eq_getElem hj']
          have li : ∀ k (hk : k < ρ.length), ρ[k] < K2.n ∧ K2.live ρ[k] = true := fun k hk => by
            obtain ⟨cs, fz, hm⟩ := key _ _ _ hbs' ρ[k] (List.getElem_mem hk)
            obtain ⟨fz', g1, _⟩ := f2 _ cs fz hm
            exact ⟨by rw [r2.n]; exact (List.getElem?_eq_some_iff.1 g1).1, (r2.ob _ _ g1).2.1⟩
          have := r2.inj _ _ (li i hi').1 (li j hj').1 (li i hi').2 (li j hj').2 (by rw [← ei, ← ej]; exact e)
          exact nodupB_inj hn i j ρ[i] (List.getElem?_eq_getElem hi') (by rw [List.getElem?_eq_getElem hj', this])
      refine (hspec K2.σ w vs bl as bs r hG (by simpa using a1) (fun j v y p q => a2 j v y (by simpa using p) q) hrun).mono ?_
      rintro e w' ⟨v, σ', rfl, b1, b2, b3, b4⟩
      obtain ⟨y1, y2⟩ := r2.called b1 b2 b3
      exact ⟨v, _, rfl, (x1.trans x2).trans y1, b1.mono h.base, y2, b4.mono (gh0_to { K2 with σ := σ' } w')⟩
  · simp [D.opt] at hx
def AllCOK (C : Ctx S) : List (Nat × CSpec S) → Prop
  | [] => True
  | p :: r => CSpecOK C p.1 p.2 ∧ AllCOK C r
theorem cspL_ok : ∀ {l : List (Nat × CSpec S)} {f : Nat} {sp : CSpec S}, AllCOK C l → cspL l f = some sp → CSpecOK C f sp
  | [], _, _, _, h => by simp [cspL] at h
  | p :: r, f, sp, ha, h => by
    unfold cspL at h
    cases e : Nat.beq p.1 f with
    | true =>
      rw [e] at h
      simp only [cond_true, Option.some.injEq] at h
      have := Nat.eq_of_beq_eq_true e
      subst this h
      exact ha.1
    | false =>
      rw [e] at h
      exact cspL_ok ha.2 h
end
theorem CSpecOK.re {C C' : Ctx S} {f : FuncId} {sp : CSpec S} (h : CSpecOK C f sp) (hP : C'.P = C.P) (hE : C'.E = C.E) (hG : C'.G = C.G) : CSpecOK C' f sp := by
  unfold CSpecOK at h ⊢
  rw [hP, hE]
  refine ⟨h.1, fun σ w vs bl as bs r hm hl hr hrun => h.2 σ w vs bl as bs r ?_ hl hr hrun⟩
  refine ⟨hm.n, fun i o q => by have := hm.ob i o q; rwa [hE] at this, hm.inj, hm.new, fun g cs q => ?_, hm.base, hm.old⟩
  have := hm.glob g cs (by rw [hG]; exact q)
  rwa [hE] at this
section
variable (C : Ctx S)
/-- A call that is gone into, its own calls by cl. -/
def into (cl : Cl S) : Cl S := fun f args m => match C.P.funcs[f]? with
  | some fn => match fn.body with
    | some b => ex C cl (fun _ _ => .fail) (fun s => (D.ofOpt (resV C fn.results.toList s)).bind fun v => .ret (v, s.mem)) fuel [.code b] (st0 fn args m)
    | none => .fail
  | none => .fail
def intoF (cl : Cl S) : Cl S := fun f args m => match C.P.funcs[f]? with
  | some fn => match fn.body with
    | some b => fcT (st0 fn args m) fun s => exF C cl (fun _ _ => .fail) (fun s => (D.ofOpt (resV C fn.results.toList s)).bind fun v => .ret (v, s.mem)) fuel [.code b] s
    | none => .fail
  | none => .fail
theorem into_eq (cl : Cl S) : intoF C cl = into C cl := by
  funext f args m
  unfold intoF into
  cases C.P.funcs[f]? with
  | none => rfl
  | some fn =>
    simp only
    cases fn.body with
    | none => rfl
    | some b => exact fcT_eq _ _ (fun s => ex C cl (fun _ _ => .fail) (fun s => (D.ofOpt (resV C fn.results.toList s)).bind fun v => .ret (v, s.mem)) fuel [.code b] s) fun s h => exF_eq C _ _ _ _ _ s h
/-- Calls of those that have contracts over closures, and calls that are gone into. -/
def clK (l : List (Nat × CSpec S)) : Nat → Cl S
  | 0 => ccCl C l fun _ _ _ => .fail
  | d + 1 => ccCl C l (into C (clK l d))
def clKF (l : List (Nat × CSpec S)) : Nat → Cl S
  | 0 => ccCl C l fun _ _ _ => .fail
  | d + 1 => ccCl C l (intoF C (clKF l d))
theorem clKF_eq (l : List (Nat × CSpec S)) : ∀ d, clKF C l d = clK C l d
  | 0 => rfl
  | d + 1 => by unfold clKF clK; rw [into_eq, clKF_eq l d]
theorem runKF_eq {R : Type} (l : List (Nat × CSpec S)) (d : Nat) (L : (St S → D R) → Lp S R) (f : FuncId) (ts : List Ty) (de : List (Cell S) → Option R) (args : List (V S)) : runW C (clK C l d) L f ts de args = runWF C (clKF C l d) L f ts de args := by
  unfold runWF runW
  rw [clKF_eq]
  cases body? C f with
  | none => rfl
  | some p => exact (fcT_eq _ _ (fun s => ex C (clK C l d) (L (finR C p.1 ts de)) (finR C p.1 ts de) fuel [.code p.2] s) fun s h => exF_eq C _ _ _ _ _ s h).symm
theorem roundKF_eq {R : Type} (l : List (Nat × CSpec S)) (d : Nat) (hd : List Item → St S → Option (St S)) (f : FuncId) (i : Nat) (ts : List Ty) (de : List (Cell S) → Option R) (L : Lp S R) (s : St S) : roundW C (clK C l d) hd f i ts de L s = roundWF C (clKF C l d) hd f i ts de L s := by
  unfold roundWF roundW
  rw [clKF_eq]
  cases todoOf C f i with
  | nil => rfl
  | cons x k => cases x with
    | inLoop c => exact (fcT_eq _ _ (fun s => ex C (clK C l d) (canonL hd L) (finW C f ts de) fuel (.code c :: .inLoop c :: k) s) fun s h => exF_eq C _ _ _ _ _ s h).symm
    | _ => rfl
/-- Runs that begin with boxes. -/
def runM {R : Type} (cl : Cl S) (L : (St S → D R) → Lp S R) (f : FuncId) (ts : List Ty) (de : List (Cell S) → Option R) (args : List (V S)) (m : Mem S) : D R :=
  match body? C f with
  | some (fn, b) => ex C cl (L (finR C fn ts de)) (finR C fn ts de) fuel [.code b] (st0 fn args m)
  | none => .fail
def runMF {R : Type} (cl : Cl S) (L : (St S → D R) → Lp S R) (f : FuncId) (ts : List Ty) (de : List (Cell S) → Option R) (args : List (V S)) (m : Mem S) : D R :=
  match body? C f with
  | some (fn, b) => fcT (st0 fn args m) fun s => exF C cl (L (finR C fn ts de)) (finR C fn ts de) fuel [.code b] s
  | none => .fail
theorem runMF_eq {R : Type} (l : List (Nat × CSpec S)) (d : Nat) (L : (St S → D R) → Lp S R) (f : FuncId) (ts : List Ty) (de : List (Cell S) → Option R) (args : List (V S)) (m : Mem S) : runM C (clK C l d) L f ts de args m = runMF C (clKF C l d) L f ts de args m := by
  unfold runMF runM
  rw [clKF_eq]
  cases body? C f with
  | none => rfl
  | some p => exact (fcT_eq _ _ (fun s => ex C (clK C l d) (L (finR C p.1 ts de)) (finR C p.1 ts de) fuel [.code p.2] s) fun s h => exF_eq C _ _ _ _ _ s h).symm
def runMh {R : Type} (cl : Cl S) (hd : List Item → St S → Option (St S)) (f : FuncId) (ts : List Ty) (de : List (Cell S) → Option R) (n : Nat) (args : List (V S)) (m : Mem S) : D R :=
  runM C cl (fun fin => canonL hd (Lfix C cl hd fin n)) f ts de args m
theorem runMh_eq {R : Type} (cl : Cl S) (hd : List Item → St S → Option (St S)) (f : FuncId) (ts : List Ty) (de : List (Cell S) → Option R) (n : Nat) (args : List (V S)) (m : Mem S) :
    runMh C cl hd f ts de n args m = runM C cl (fun _ => canonL hd (Lfix C cl hd (finW C f ts de) n)) f ts de args m := by
  unfold runMh runM finW
  cases body? C f with
  | none => rfl
  | some p => rfl
end
section
variable {C : Ctx S}
/-- What is asked at one function. -/
def ClAt (C : Ctx S) (cl : Cl S) (f : FuncId) : Prop := Enters C.P f ∧
  ∀ (K : Gh) (w : World) (B : Nat) (m : Mem S) (args : List (V S)) (vs : Array Value) (x : V S) (m' : Mem S), RelM C K w B m → vs.size = args.length → (∀ (j : Nat) (v : Value) (y : V S), vs[j]? = some v → args[j]? = some y → RepV C.E K w v y) →
    (cl f args m).opt = some (x, m') → Calls C.P f vs w fun e w' => ∃ v K', e = .returned v ∧ Ext K w K' w' ∧ Below B w w' ∧ RelM C K' w' B m' ∧ RepV C.E K' w' v x
theorem ccCl_ok (hE : EnvOK C.E) {l : List (Nat × CSpec S)} (hl : AllCOK C l) {base : Cl S} (hb : ∀ f, C.inl f = true → cspL l f = none → ClAt C base f) : ClOK C (ccCl C l base) := by
  intro f hf
  cases hc : cspL l f with
  | some sp =>
    have hsp := cspL_ok hl hc
    refine ⟨hsp.1, fun K w B m args vs x m' hm hs hr hx => ?_⟩
    unfold ccCl at hx
    rw [hc] at hx
    exact semCC_ok hE hm hsp hs hr hx
  | none =>
    obtain ⟨h1, h2⟩ := hb f hf hc
    refine ⟨h1, fun K w B m args vs x m' hm hs hr hx => ?_⟩
    unfold ccCl at hx
    rw [hc] at hx
    exact h2 K w B m args vs x m' hm hs hr hx
theorem fnOk_enters {f : FuncId} (hok : fnOk C f = true) : Enters C.P f := by
  unfold fnOk at hok
  cases hfn : C.P.funcs[f]? with
  | none => rw [hfn] at hok; cases hok
  | some fn =>
    rw [hfn] at hok
    simp only at hok
    cases hb : fn.body with
    | none => rw [hb] at hok; cases hok
    | some c =>
      rw [hb] at hok
      simp only [Bool.and_eq_true] at hok
      exact ⟨fn, hfn, by rw [hb]; rfl, by simpa using hok.2⟩
theorem into_ok (hE : EnvOK C.E) (hT : TyOK C) (hS : ∀ f sp, C.spec f = some sp → SpecOK C f sp) (hM : C.P.follows .mixedOrders = true) {f : FuncId} (hok : fnOk C f = true) {cl : Cl S} (hC : ClOK C cl) : ClAt C (into C cl) f := by
  refine ⟨fnOk_enters hok, fun K w B m args vs x m' hm hl hr h => ?_⟩
  unfold fnOk at hok
  simp only [into] at h
  cases hfn : C.P.funcs[f]? with
  | none => rw [hfn] at hok; cases hok
  | some fn =>
    rw [hfn] at hok h
    simp only at hok h
    cases hb : fn.body with
    | none => rw [hb] at hok; cases hok
    | some c =>
      rw [hb] at hok h
      simp only [Bool.and_eq_true] at hok h
      obtain ⟨hc, hname⟩ := hok
      refine calls_of_runs hfn hb fun b cs => ?_
      have := ex_ok (B := B) (K0 := K) (w0 := w) (b := b) (cs := cs) (L := fun _ _ => .fail) (fin := fun s => (D.ofOpt (resV C fn.results.toList s)).bind fun v => .ret (v, s.mem))
        (T := fun r a w' => a.defers = [] ∧ ∃ v, (results fn a.tmps).run C.P w' = .ok v w' ∧ ∃ K', Ext K w K' w' ∧ Below B w w' ∧ RelM C K' w' B r.2 ∧ RepV C.E K' w' v r.1)
        hE hT hS hC hM (fun c k s r a w _ _ hh => by simp [D.opt] at hh) (fun id ops dr k s r a w _ _ _ hh => by simp [D.opt] at hh)
        (fun s r a w' ⟨K', x1, x2, x3⟩ hh => by
          obtain ⟨y, hy, hh⟩ := opt_ofOpt_bind hh
          simp only [D.opt, Option.some.injEq] at hh
          subst hh
          obtain ⟨v, v1, v2⟩ := results_run x3 fn hy
          exact ⟨x3.defers, v, v1, K', x1, x2, x3.mem, v2⟩)
        fuel [.code c] (st0 fn args m) (x, m') _ w (by simp [itemsOk, itemOk, hc]) ⟨K, .refl K w, Below.refl B w, RelS.start hm fn hl hr⟩ h
      obtain ⟨a', w', t', ⟨hd, v, v1, K', q1, q2, q3, q4⟩, st⟩ := this
      exact ⟨a', w', t', ⟨hd, v, v1, v, K', rfl, q1, q2, q3, q4⟩, st⟩
theorem clK_ok (hE : EnvOK C.E) (hT : TyOK C) (hS : ∀ f sp, C.spec f = some sp → SpecOK C f sp) (hM : C.P.follows .mixedOrders = true) {l : List (Nat × CSpec S)} (hI : ∀ f, C.inl f = true → cspL l f = none → fnOk C f = true) (hl : AllCOK C l) : ∀ d, ClOK C (clK C l d)
  | 0 => ccCl_ok hE hl fun f hf hn => ⟨fnOk_enters (hI f hf hn), fun K w B m args vs x m' _ _ _ h => by simp [D.opt] at h⟩
  | d + 1 => ccCl_ok hE hl fun f hf hn => into_ok hE hT hS hM (hI f hf hn) (clK_ok hE hT hS hM hI hl d)
theorem inlK_ok {l : List Nat} {lc : List (Nat × CSpec S)} (hl : C.inl = inL l) (h : (l.all fun f => (cspL lc f).isSome || fnOk C f) = true) : ∀ f, C.inl f = true → cspL lc f = none → fnOk C f = true := by
  intro f hf hn
  rw [hl] at hf
  have := (List.all_eq_true.1 h) f (inL_mem hf)
  rw [hn] at this
  simpa using this
/-- A contract over closures from a run. -/
theorem cspec_ok {cl : Cl S} (hE : EnvOK C.E) (hT : TyOK C) (hS : ∀ f sp, C.spec f = some sp → SpecOK C f sp) (hC : ClOK C cl) (hM : C.P.follows .mixedOrders = true) {hd : List Item → St S → Option (St S)} (hH : HdOK C hd)
    {f : FuncId} (hok : fnOk C f = true) {sp : CSpec S} (ts : List Ty) (de : List (Cell S) → Option sp.R) (hde : ∀ cs r, de cs = some r → cs = sp.enc r)
    (hev : ∀ as bs r, sp.run as bs = some r → ∃ n, (runMh C cl hd f ts de n (patV C.E sp.pats as) (boxM C.E sp.boxes bs)).opt = some r) : CSpecOK C f sp := by
  unfold fnOk at hok
  cases hfn : C.P.funcs[f]? with
  | none => rw [hfn] at hok; cases hok
  | some fn =>
    rw [hfn] at hok
    simp only at hok
    cases hb : fn.body with
    | none => rw [hb] at hok; cases hok
    | some c =>
      rw [hb] at hok
      simp only [Bool.and_eq_true] at hok
      obtain ⟨hc, hname⟩ := hok
      refine ⟨⟨fn, hfn, by rw [hb]; rfl, by simpa using hname⟩, fun σ w vs bl as bs r hm0 hsz hargs hrun => ?_⟩
      obtain ⟨n, hn⟩ := hev as bs r hrun
      have hbody : body? C f = some (fn, c) := by unfold body?; rw [hfn]; simp [hb]
      unfold runMh runM at hn
      rw [hbody] at hn
      simp only at hn
      let K0 : Gh := { gh0 σ with σ0 := some (σ, fun _ => undef) }
      have hx0 : Ext K0 w (ghB sp.boxes.length bl σ) w := ⟨Nat.zero_le _, fun i hi => absurd hi (Nat.not_lt_zero i), fun _ => Nat.le_refl _, fun _ _ _ => rfl, fun _ _ _ h => keeps.of h, .inr rfl⟩
      refine calls_of_runs hfn hb fun b fs => ?_
      have hF : ∀ s r a w', At C w.heap.size K0 w s a w' → (finR C fn ts de s).opt = some r → a.defers = [] ∧ ∃ v σ', (results fn a.tmps).run C.P w' = .ok v w' ∧ Below w.heap.size w w' ∧ (∀ b, b < w.heap.size → σ' b = σ b) ∧ (∀ b, w'.heap.size ≤ b → σ' b = 0) ∧ RepV C.E (gh0 σ') w' v (encAll C.E (sp.enc r)) := by
        rintro s r a w' ⟨K, x1, x2, x3⟩ hf
        obtain ⟨cs', h1, h2⟩ := opt_bind_some hf
        have h2' : de cs' = some r := by
          cases hd : de cs' with
          | none => rw [hd] at h2; simp [D.ofOpt, D.opt] at h2
          | some q => rw [hd] at h2; simp only [D.ofOpt, D.opt, Option.some.injEq] at h2; rw [h2]
        obtain ⟨v, K', g1, g2, ⟨m, g3⟩, g4⟩ := finT_rep hE x3 fn h1
        rw [hde cs' r h2'] at g4
        obtain ⟨F, f1, f2⟩ := g3.old
        have hxx := x1.trans g2
        have hF : F = (σ, fun _ => undef) := by
          rcases hxx.σ0 with q | q
          · cases q
          · rw [f1] at q; cases q; rfl
        subst hF
        exact ⟨x3.defers, v, K'.σ, g1, x2, f2, g3.new, g4⟩
      have hA : At C w.heap.size K0 w (st0 fn (patV C.E sp.pats as) (boxM C.E sp.boxes bs)) { tmps := vs ++ Array.replicate (fn.ntmps - vs.size) undef, defers := [] } w :=
        ⟨_, hx0, Below.refl _ w, RelS.start hm0 fn (by rw [patV_len]; exact hsz) hargs⟩
      obtain ⟨a', w', t', ⟨hd', v, σ', q1, q2, q3, q4, q5⟩, st⟩ := ex_ok (b := b) (cs := fs) hE hT hS hC hM (canon_ok (T := fun r a w' => a.defers = [] ∧ ∃ v σ', (results fn a.tmps).run C.P w' = .ok v w' ∧ Below w.heap.size w w' ∧ (∀ b, b < w.heap.size → σ' b = σ b) ∧ (∀ b, w'.heap.size ≤ b → σ' b = 0) ∧ RepV C.E (gh0 σ') w' v (encAll C.E (sp.enc r))) hE hT hS hC hM rfl hH hF (fix_ok hE hT hS hC hM rfl hH hF n)) (fun id ops dr k s r a w _ _ _ hh => (no_hook n hh).elim) hF fuel _ _ r _ w (by simp [itemsOk, itemOk, hc]) hA hn
      exact ⟨a', w', t', ⟨hd', v, q1, v, σ', rfl, q2, q3, q4, q5⟩, st⟩
end
/-- A run over arguments and boxes. -/
def runC {R : Type} (n : Nat) (F : List (Cell S) → Option R) (as bs : List (Cell S)) : Option R := if as.length = n then F (as ++ bs) else none
theorem invC {R : Type} {n : Nat} {F : List (Cell S) → Option R} {as bs : List (Cell S)} {r : R} (h : runC n F as bs = some r) : ∃ cs, as = cs.take n ∧ bs = cs.drop n ∧ F cs = some r := by
  unfold runC at h
  split at h
  · rename_i hl
    subst hl
    exact ⟨as ++ bs, by simp, by simp, h⟩
  · cases h
def entersCB (P : Program) (f : FuncId) : Bool := match P.funcs[f]? with
  | some fn => !fn.body.isNone && !(fn.name == "runtime.NumGoroutine")
  | none => false
theorem entersC {P : Program} {f : FuncId} (h : entersCB P f = true) : Enters P f := by
  unfold entersCB at h
  split at h
  · rename_i fn hfn
    simp only [Bool.and_eq_true, Bool.not_eq_true'] at h
    exact ⟨fn, hfn, h.1, h.2⟩
  · cases h
end Go.Lv
