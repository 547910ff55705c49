import Derived.Test.YtonphdpgepnenaaDoorLvSpec
import Derived.ChangeArms
import Derived.WideShapes
import Derived.ChangeShapes
namespace Go.Lv
set_option linter.all false
open Go Go.RowKit
variable {S : Nat → Type}

/-- Each struct's cells make one. -/
def EnvFill (E : Env S) : Prop := ∀ i (cells : List (Cell S)), cells.map (·.t) = E.tys i → ∃ x, E.toC i x = cells

/-- In range. -/
inductive Wf (E : Env S) : (t : Ty) → den S t → Prop where
  | bool (b : Bool) : Wf E .bool b
  | int (k : IntKind) (n : Int) (h : (Lit.int k n).wf = true) : Wf E (.int k) n
  | str (l : List UInt8) (h : l.length ≤ maxLen) : Wf E .str l
  | err (b : Bool) : Wf E .err b
  | slice (t : Ty) (l : List (den S t)) (hl : l.length ≤ maxLen) (h : ∀ (i : Nat) (x : den S t), l[i]? = some x → ∀ (j : Nat) (c : Cell S), (cellsOf E t x)[j]? = some c → Wf E c.t c.x) : Wf E (.slice t) l
def WfV (E : Env S) (t : Ty) (x : den S t) : Prop := ∀ (j : Nat) (c : Cell S), (cellsOf E t x)[j]? = some c → Wf E c.t c.x

/-- The whole of what is there is held. -/
def sig (w : World) (b : Nat) : Nat := match w.heap[b]? with
  | some (.cells c _ _) => c.size
  | some (.map _ _) => 1
  | _ => 0

theorem sig_cell {w : World} {b o : Nat} {v : Value} (h : w.cell? ⟨b, o, none⟩ = some v) : o < sig w b := by
  unfold World.cell? at h
  unfold sig
  split at h
  · rename_i c e fr hb
    simp only at hb
    rw [hb]
    simp only [Option.isSome_none, Bool.false_eq_true, if_false] at h
    exact (Array.getElem?_eq_some_iff.1 h).1
  · cases h

theorem sig_new {w : World} (b : Nat) (h : w.heap.size ≤ b) : sig w b = 0 := by
  unfold sig; rw [Array.getElem?_eq_none h]

def flatF (P : Program) (flat : TypeId → Option (List Ty)) : Nat → List Field → Option (List Ty)
  | _, [] => some []
  | off, f :: fs => if f.offset = off then (flat f.type).bind fun ts => (flatF P flat (off + ts.length) fs).map fun r => ts ++ r else none

/-- A type's cells. -/
def flat (P : Program) (ty : TypeId → Option Ty) : Nat → TypeId → Option (List Ty)
  | 0, _ => none
  | n + 1, t => (match P.underlying t with
    | some .bool => some [Ty.bool]
    | some (.int k) => some [Ty.int k]
    | some .string => some [Ty.str]
    | some (.interface _) => some [Ty.err]
    | some (.slice e) => (ty e).map fun T => [Ty.slice T]
    | some (.struct fs) => flatF P (flat P ty n) 0 fs.toList
    | _ => none).bind fun ts => if P.cellsOf t = ts.length then some ts else none

def cellTys (E : Env S) : Ty → List Ty
  | .st i => E.tys i
  | t => [t]
def isStT : Ty → Bool
  | .st _ => true
  | _ => false
def isStr (P : Program) (t : TypeId) : Bool := match P.underlying t with
  | some (.struct _) => true
  | _ => false
def TabOK (C : Ctx S) : Prop := ∀ t T, C.ty t = some T → (∃ n, flat C.P C.ty n t = some (cellTys C.E T)) ∧ 0 < tsize C.E T ∧ isStr C.P t = isStT T

theorem flat_len {P : Program} {ty : TypeId → Option Ty} {n : Nat} {t : TypeId} {ts : List Ty} (h : flat P ty n t = some ts) : P.cellsOf t = ts.length := by
  cases n with
  | zero => simp [flat] at h
  | succ n =>
    simp only [flat] at h
    rw [Option.bind_eq_some_iff] at h
    obtain ⟨ts', _, h⟩ := h
    split at h
    · cases h; assumption
    · cases h

theorem fill (E : Env S) (hF : EnvFill E) (T : Ty) (cells : List (Cell S)) (h : cells.map (·.t) = cellTys E T) : ∃ x : den S T, cellsOf E T x = cells := by
  have leaf : ∀ T : Ty, cells.map (·.t) = [T] → ∃ x : den S T, cells = [⟨T, x⟩] := by
    intro T h
    match cells, h with
    | [⟨t, x⟩], h =>
      simp at h
      subst h
      exact ⟨x, rfl⟩
  cases T with
  | st i => exact hF i cells h
  | bool => obtain ⟨x, hx⟩ := leaf .bool h; exact ⟨x, hx.symm⟩
  | int k => obtain ⟨x, hx⟩ := leaf (.int k) h; exact ⟨x, hx.symm⟩
  | str => obtain ⟨x, hx⟩ := leaf .str h; exact ⟨x, hx.symm⟩
  | err => obtain ⟨x, hx⟩ := leaf .err h; exact ⟨x, hx.symm⟩
  | fn => obtain ⟨x, hx⟩ := leaf .fn h; exact ⟨x, hx.symm⟩
  | slice t => obtain ⟨x, hx⟩ := leaf (.slice t) h; exact ⟨x, hx.symm⟩

section
variable {H : Type} {enc : TypeId × Value → H} {C : Ctx S} {W : World} {sp : Nat → Bool}

theorem addr_add (a : Addr) (m r : Nat) : (a.add m).add r = a.add (m + r) := by
  unfold Addr.add
  by_cases h : m = 0 <;> by_cases h' : r = 0 <;> simp [*, Nat.add_assoc]

theorem addr_plain (b off j : Nat) : (⟨b, off, none⟩ : Addr).add j = ⟨b, off + j, none⟩ := by
  unfold Addr.add
  by_cases h : j = 0 <;> simp [*]

/-- Cells that are told. -/
def Told (E : Env S) (W : World) (cs : List Value) (cells : List (Cell S)) : Prop :=
  cs.length = cells.length ∧ ∀ (j : Nat) (v : Value) (c : Cell S), cs[j]? = some v → cells[j]? = some c → Rep E (sig W) W v c.t c.x ∧ Wf E c.t c.x

theorem Told.one {E : Env S} {v : Value} {t : Ty} {x : den S t} (h : Rep E (sig W) W v t x) (hw : Wf E t x) : Told E W [v] [⟨t, x⟩] := by
  refine ⟨rfl, fun j u c p q => ?_⟩
  cases j with
  | zero => simp only [List.getElem?_cons_zero, Option.some.injEq] at p q; subst p q; exact ⟨h, hw⟩
  | succ j => simp at p

theorem cells?_get {w : World} {base : Nat} {a : Addr} : ∀ {n : Nat} {cs : List Value}, w.cells? base a n = some cs → cs.length = n ∧ ∀ i, i < n → w.cell? (a.add i) = cs[i]? := by
  intro n cs h
  unfold World.cells? at h
  split at h
  · exact ⟨by simpa using mapM_some_length h, fun i hi => by simpa using mapM_some_get h i i (by simp [hi])⟩
  · cases h

theorem read_cells (hTab : TabOK C) (hF : EnvFill C.E) (hE : EnvOK C.E) : ∀ (n : Nat) (t : TypeId) (k : Nat) (ts : List Ty) (cs : List Value) (x : DataW H × List MemPlace),
    DataW.trod enc C.P W 0 sp true n t cs = some x → flat C.P C.ty k t = some ts → ∃ cells : List (Cell S), cells.map (·.t) = ts ∧ Told C.E W cs cells := by
  intro n
  induction n with
  | zero => intro t k ts cs x h; simp [DataW.trod] at h
  | succ n ih =>
    intro t k ts cs x h hf
    have hcl := flat_len hf
    cases k with
    | zero => simp [flat] at hf
    | succ k =>
      simp only [flat] at hf
      rw [Option.bind_eq_some_iff] at hf
      obtain ⟨ts', hf, hts⟩ := hf
      have : ts' = ts := by
        split at hts
        · cases hts; rfl
        · cases hts
      subst this
      split at hf
      · rename_i hu
        cases hf
        obtain ⟨b, rfl, _⟩ := DataW.trod_bool hu h
        exact ⟨[⟨.bool, b⟩], rfl, .one (.bool b) (.bool b)⟩
      · rename_i kk hu
        cases hf
        obtain ⟨m, rfl, _, hw⟩ := DataW.trod_int hu h
        exact ⟨[⟨.int kk, m⟩], rfl, .one (.int kk m) (.int kk m hw)⟩
      · rename_i hu
        cases hf
        obtain ⟨s, rfl, _, hs⟩ := DataW.trod_string hu h
        refine ⟨[⟨.str, s.data.toList⟩], rfl, .one ?_ (.str _ (by have e : s.data.toList.length = s.size := Array.length_toList; rw [e]; exact hs))⟩
        have := Rep.str (E := C.E) (σ := sig W) (w := W) s.data.toList
        simpa using this
      · rename_i hu
        cases hf
        have key : cs = [.nilIface] ∨ ∃ u v, cs = [.iface u v] := by
          unfold DataW.trod at h
          rw [hu] at h
          split at h <;> simp_all
        rcases key with rfl | ⟨u, v, rfl⟩
        · exact ⟨[⟨.err, false⟩], rfl, .one .errNil (.err _)⟩
        · exact ⟨[⟨.err, true⟩], rfl, .one (.err u v) (.err _)⟩
      · rename_i e hu
        cases hty : C.ty e with
        | none => rw [hty] at hf; cases hf
        | some T =>
          rw [hty] at hf
          simp only [Option.map_some, Option.some.injEq] at hf
          subst hf
          obtain ⟨⟨k', hflat⟩, hT0, _⟩ := hTab e T hty
          rcases DataW.trod_slice hu h with ⟨rfl, _⟩ | ⟨a, len, cap, elems, rest, n', hn, rfl, _, _, hl, hm, hlen, hel, _, _⟩
          · exact ⟨[⟨.slice T, ([] : List (den S T))⟩], rfl, .one (.nil T none 0) (.slice T [] (Nat.zero_le _) fun i x q => by simp at q)⟩
          · have hn' : n' = n := by omega
            subst hn'
            have hsz : C.P.cellsOf e = tsize C.E T := by
              rw [flat_len hflat]
              cases T <;> rfl
            have each : ∀ i, i < len → ∃ y : den S T, ∃ cs', W.cells? 0 (a.add (i * C.P.cellsOf e)) (C.P.cellsOf e) = some cs' ∧ Told C.E W cs' (cellsOf C.E T y) := by
              intro i hi
              have := hel i hi
              have hi' : i < elems.length := by omega
              rw [List.getElem?_eq_getElem hi', Option.bind_eq_some_iff] at this
              obtain ⟨cs', h1, h2⟩ := this
              obtain ⟨cells, h3, h4⟩ := ih e k' _ cs' _ h2 hflat
              obtain ⟨y, rfl⟩ := fill C.E hF T cells h3
              exact ⟨y, cs', h1, h4⟩
            have pick : ∀ m, m ≤ len → ∃ l : List (den S T), l.length = m ∧ ∀ (i : Nat) (y : den S T), l[i]? = some y → ∃ cs', W.cells? 0 (a.add (i * C.P.cellsOf e)) (C.P.cellsOf e) = some cs' ∧ Told C.E W cs' (cellsOf C.E T y) := by
              intro m
              induction m with
              | zero => intro _; exact ⟨[], rfl, fun i y q => by simp at q⟩
              | succ m ihm =>
                intro hm'
                obtain ⟨l, l1, l2⟩ := ihm (by omega)
                obtain ⟨y, hy⟩ := each m (by omega)
                refine ⟨l ++ [y], by simp [l1], fun i z q => ?_⟩
                by_cases hi : i < l.length
                · rw [List.getElem?_append_left hi] at q; exact l2 i z q
                · have hi2 : i = m := by
                    have := (List.getElem?_eq_some_iff.1 q).1
                    simp at this; omega
                  subst hi2
                  rw [← l1, List.getElem?_concat_length, Option.some.injEq] at q
                  subst q
                  exact hy
            obtain ⟨l, rfl, hl2⟩ := pick len (Nat.le_refl _)
            have hwf : Wf C.E (.slice T) l := .slice T l (by omega) fun i y q j c r => by
              obtain ⟨cs', c1, c2, c3⟩ := hl2 i y q
              have hj : j < cs'.length := by rw [c2]; exact (List.getElem?_eq_some_iff.1 r).1
              exact (c3 j cs'[j] c (List.getElem?_eq_getElem hj) r).2
            refine ⟨[⟨.slice T, l⟩], rfl, .one ?_ hwf⟩
            by_cases hz : l.length * tsize C.E T = 0
            · have : l = [] := by
                cases l with
                | nil => rfl
                | cons y r =>
                  exfalso
                  rcases Nat.mul_eq_zero.1 hz with q | q
                  · simp at q
                  · omega
              subst this
              exact .nil T _ _
            · have hone : ∀ j, j < l.length * tsize C.E T → ∃ v, W.cell? (a.add j) = some v ∧ ∀ (i : Nat) (y : den S T), l[i]? = some y → ∀ (j' : Nat) (c : Cell S), (cellsOf C.E T y)[j']? = some c → j = i * tsize C.E T + j' → Rep C.E (sig W) W v c.t c.x := by
                intro j hj
                have hT : 0 < tsize C.E T := by
                  rcases Nat.eq_zero_or_pos (tsize C.E T) with q | q
                  · rw [q] at hz; simp at hz
                  · exact q
                have hi : j / tsize C.E T < l.length := Nat.div_lt_of_lt_mul (by rw [Nat.mul_comm]; exact hj)
                obtain ⟨cs', c1, c2, c3⟩ := hl2 (j / tsize C.E T) _ (List.getElem?_eq_getElem hi)
                obtain ⟨g1, g2⟩ := cells?_get c1
                have hr : j % tsize C.E T < C.P.cellsOf e := by rw [hsz]; exact Nat.mod_lt _ hT
                have hg := g2 _ hr
                have hdm : j / tsize C.E T * tsize C.E T + j % tsize C.E T = j := Nat.div_add_mod' j _
                have ha : (a.add (j / tsize C.E T * C.P.cellsOf e)).add (j % tsize C.E T) = a.add j := by
                  rw [hsz]
                  rw [addr_add, hdm]
                rw [ha] at hg
                have hlt : j % tsize C.E T < cs'.length := by omega
                refine ⟨cs'[j % tsize C.E T], by rw [hg, List.getElem?_eq_getElem hlt], fun i y hy j' c hc e => ?_⟩
                have hj' : j' < tsize C.E T := by rw [← cellsOf_len hE T y]; exact (List.getElem?_eq_some_iff.1 hc).1
                have e1 : i = j / tsize C.E T := by rw [e, Nat.mul_comm, Nat.mul_add_div hT, Nat.div_eq_of_lt hj']; rfl
                have e2 : j' = j % tsize C.E T := by rw [e, Nat.mul_comm, Nat.mul_add_mod, Nat.mod_eq_of_lt hj']
                subst e1 e2
                rw [List.getElem?_eq_getElem hi, Option.some.injEq] at hy
                subst hy
                exact (c3 _ _ c (List.getElem?_eq_getElem hlt) hc).1
              have hspot : a.spot = none := by
                obtain ⟨v, hv, _⟩ := hone 0 (by omega)
                unfold World.cell? at hv
                split at hv
                · split at hv
                  · cases hv
                  · rename_i q; cases hs : a.spot with
                    | none => rfl
                    | some _ => simp [Addr.add, hs] at q
                · cases hv
              obtain ⟨b, off, spot⟩ := a
              simp only at hspot
              subst hspot
              let vs : Nat → Value := fun j => (W.cell? ⟨b, off + j, none⟩).getD undef
              have hvs : ∀ j, j < l.length * tsize C.E T → W.cell? ⟨b, off + j, none⟩ = some (vs j) := by
                intro j hj
                obtain ⟨v, hv, _⟩ := hone j hj
                have : W.cell? ⟨b, off + j, none⟩ = some v := (addr_plain b off j) ▸ hv
                simp only [vs, this, Option.getD_some]
              refine .slice T l b off cap vs (by omega) ?_ hvs fun i y hy j c hc => ?_
              · have := sig_cell (hvs (l.length * tsize C.E T - 1) (by omega))
                omega
              · have hj' : j < tsize C.E T := by rw [← cellsOf_len hE T y]; exact (List.getElem?_eq_some_iff.1 hc).1
                have hi : i < l.length := (List.getElem?_eq_some_iff.1 hy).1
                have hlt : i * tsize C.E T + j < l.length * tsize C.E T := by
                  have : (i + 1) * tsize C.E T ≤ l.length * tsize C.E T := Nat.mul_le_mul_right _ hi
                  rw [Nat.succ_mul] at this
                  omega
                obtain ⟨v, hv, hv2⟩ := hone _ hlt
                have : W.cell? ⟨b, off + (i * tsize C.E T + j), none⟩ = some v := (addr_plain b off _) ▸ hv
                have e : vs (i * tsize C.E T + j) = v := by simp only [vs, this, Option.getD_some]
                rw [e]
                exact hv2 i y hy j c hc rfl
      · rename_i fs hu
        obtain ⟨xs, n', hn, _, hcs, hxl, hxs⟩ := DataW.trod_struct hu h
        have hn' : n' = n := by omega
        subst hn'
        have main : ∀ (l : List Field) (off : Nat) (r : List Ty), (∀ f, f ∈ l → ∃ y, DataW.trod enc C.P W 0 sp true n' f.type ((cs.drop f.offset).take (C.P.cellsOf f.type)) = some y) → flatF C.P (flat C.P C.ty k) off l = some r → off + r.length ≤ cs.length →
            ∃ cells : List (Cell S), cells.map (·.t) = r ∧ Told C.E W ((cs.drop off).take r.length) cells := by
          intro l
          induction l with
          | nil =>
            intro off r _ hr _
            simp only [flatF, Option.some.injEq] at hr
            subst hr
            exact ⟨[], rfl, by simp [Told]⟩
          | cons f l ihl =>
            intro off r hl hr hle
            simp only [flatF] at hr
            split at hr
            · rename_i hoff
              rw [Option.bind_eq_some_iff] at hr
              obtain ⟨ts1, h1, hr⟩ := hr
              rw [Option.map_eq_some_iff] at hr
              obtain ⟨r2, h2, hr⟩ := hr
              subst hr
              obtain ⟨y, hy⟩ := hl f (by simp)
              rw [hoff, flat_len h1] at hy
              obtain ⟨c1, q1, q2, q3⟩ := ih f.type k ts1 _ y hy h1
              rw [List.length_append] at hle
              obtain ⟨c2, p1, p2, p3⟩ := ihl (off + ts1.length) r2 (fun g hg => hl g (by simp [hg])) h2 (by omega)
              have hc1 : c1.length = ts1.length := by rw [← q1]; simp
              have e : (cs.drop off).take (ts1.length + r2.length) = (cs.drop off).take ts1.length ++ (cs.drop (off + ts1.length)).take r2.length := by
                rw [List.take_add, List.drop_drop]
              refine ⟨c1 ++ c2, by simp [q1, p1], ?_⟩
              rw [List.length_append, e]
              refine ⟨by rw [List.length_append, List.length_append, q2, p2], fun j v c hv hc => ?_⟩
              by_cases hj : j < c1.length
              · rw [List.getElem?_append_left hj] at hc
                rw [List.getElem?_append_left (by rw [q2]; exact hj)] at hv
                exact q3 j v c hv hc
              · rw [List.getElem?_append_right (by omega)] at hc
                rw [List.getElem?_append_right (by rw [q2]; omega), q2] at hv
                exact p3 _ v c hv hc
            · cases hr
        obtain ⟨cells, h1, h2⟩ := main fs.toList 0 ts' (fun f hf => by
          obtain ⟨i, hi⟩ := List.getElem?_of_mem hf
          have hi2 : fs[i]? = some f := by simpa using hi
          have := hxs i f hi2
          have hlt : i < xs.length := by rw [hxl]; exact (Array.getElem?_eq_some_iff.1 hi2).1
          rw [List.getElem?_eq_getElem hlt] at this
          exact ⟨_, this⟩) hf (by rw [hcs, hcl]; omega)
        refine ⟨cells, h1, ?_⟩
        have : (cs.drop 0).take ts'.length = cs := by rw [List.drop_zero, List.take_of_length_le]; omega
        rwa [this] at h2
      · cases hf
end
end Go.Lv

