import Derived.Test.YtonphdpgepnenaaDoorLvRead
import Derived.WalkKit
import Derived.ProofKit
import Derived.OpenShut
import Derived.ChangeOld
import Derived.SizedLaws
import Derived.JoinedOf
namespace Go.Lv
set_option linter.all false
open Go Go.RowKit Go.ChangeShapes Go.WideShapes Go.ChangeAt
variable {S : Nat → Type}

section
variable {H : Type} {enc : TypeId × Value → H} {C : Ctx S} {W : World} {sp : Nat → Bool}

theorem flat_cell {P : Program} {w : World} {base : Nat} {ty : TypeId → Option Ty} {n : Nat} {t : TypeId} {ts : List Ty} {v : Value} (hf : flat P ty n t = some ts) (hs : isStr P t = false) (h : Value.okWide P w .any base t v) : v.cells = #[v] := by
  cases n with
  | zero => simp [flat] at hf
  | succ n =>
    simp only [flat] at hf
    rw [Option.bind_eq_some_iff] at hf
    obtain ⟨ts', hf, _⟩ := hf
    split at hf <;> rename_i hu <;> first | (simp only [isStr, hu] at hs; done) | skip
    all_goals first
      | cases hf; done
      | (simp only [isStr, hu] at hs; cases hs; done)
      | (simp only [Value.okWide, hu, Cell.okWide] at h; cases v <;> simp_all [Cell.ok, Value.cells]; done)

theorem read_arg (hTab : TabOK C) (hF : EnvFill C.E) (hE : EnvOK C.E) {base : Nat} {t : TypeId} {T : Ty} (hty : C.ty t = some T) {v : Value} {d : DataW H} {ps : List MemPlace}
    (hok : Value.okWide C.P W .any base t v) (h : DataW.Trod enc C.P W 0 sp true t v d ps) : ∃ x : den S T, RepV C.E (gh0 (sig W)) W v (encV C.E T x) ∧ WfV C.E T x := by
  obtain ⟨fuel, h⟩ := h
  obtain ⟨⟨n, hflat⟩, h0, hstr⟩ := hTab t T hty
  obtain ⟨cells, h1, h2, h3⟩ := read_cells hTab hF hE fuel t n _ _ _ h hflat
  obtain ⟨x, rfl⟩ := fill C.E hF T cells h1
  refine ⟨x, ?_, fun j c hc => ?_⟩
  · have leaf : (∀ i, T ≠ .st i) → RepV C.E (gh0 (sig W)) W v (.cell T x) := by
      intro hT
      have hs : isStr C.P t = false := by
        rw [hstr]
        cases T with
        | st i => exact absurd rfl (hT i)
        | _ => rfl
      have hc := flat_cell hflat hs hok
      have hcell : cellsOf C.E T x = [⟨T, x⟩] := by
        cases T with
        | st i => exact absurd rfl (hT i)
        | _ => rfl
      rw [hc, hcell] at h3
      exact .cell (h3 0 v ⟨T, x⟩ rfl rfl).1
    cases T with
    | st i =>
      have hs : isStr C.P t = true := hstr
      unfold isStr at hs
      split at hs
      · rename_i fs hu
        obtain ⟨cs, rfl, _⟩ := okWide_struct hu hok
        have hl : cs.size = (C.E.toC i x).length := by simpa [Value.cells, cellsOf] using h2
        refine .agg cs _ (by simpa using hl) fun j c u hc hu => ?_
        rw [List.getElem?_map] at hu
        cases hcl : (C.E.toC i x)[j]? with
        | none => rw [hcl] at hu; simp at hu
        | some cl =>
          rw [hcl] at hu
          simp only [Option.map_some, Option.some.injEq] at hu
          subst hu
          exact .cell (h3 j c cl (by simpa [Value.cells] using hc) hcl).1
      · cases hs
    | bool => exact leaf (fun i e => by cases e)
    | int k => exact leaf (fun i e => by cases e)
    | str => exact leaf (fun i e => by cases e)
    | err => exact leaf (fun i e => by cases e)
    | fn => exact leaf (fun i e => by cases e)
    | slice t => exact leaf (fun i e => by cases e)
  · have hj : j < v.cells.toList.length := by rw [h2]; exact (List.getElem?_eq_some_iff.1 hc).1
    exact (h3 j _ c (List.getElem?_eq_getElem hj) hc).2

/-- Arguments in range. -/
def ArgsOK (E : Env S) (ts : List Ty) (cs : List (Cell S)) : Prop := cs.map (·.t) = ts ∧ ∀ c, c ∈ cs → WfV E c.t c.x

theorem read_args (hTab : TabOK C) (hF : EnvFill C.E) (hE : EnvOK C.E) {base : Nat} : ∀ (ts : List TypeId) (Ts : List Ty) (vs : List Value) (ds : List (DataW H)) (ps : List MemPlace), ts.map C.ty = Ts.map some → DataW.TrodAll enc C.P W 0 sp true ts vs ds ps →
    (∀ (j : Nat) (t : TypeId) (v : Value), ts[j]? = some t → vs[j]? = some v → Value.okWide C.P W .any base t v) →
    ∃ cs : List (Cell S), ArgsOK C.E Ts cs ∧ vs.length = cs.length ∧ ∀ (j : Nat) (v : Value) (c : Cell S), vs[j]? = some v → cs[j]? = some c → RepV C.E (gh0 (sig W)) W v (encV C.E c.t c.x)
  | [], Ts, vs, ds, ps, hT, h, _ => by
    obtain ⟨rfl, _, _⟩ := trodAll_nil h
    cases Ts with
    | nil => exact ⟨[], ⟨rfl, fun c hc => by cases hc⟩, rfl, fun j v c hv => by simp at hv⟩
    | cons T Ts => simp at hT
  | t :: ts, Ts, vs, ds, ps, hT, h, hok => by
    obtain ⟨v, vs', d, ds', p, q, rfl, rfl, rfl, h1, h2⟩ := trodAll_cons h
    cases Ts with
    | nil => simp at hT
    | cons T Ts =>
      simp only [List.map_cons, List.cons.injEq] at hT
      obtain ⟨x, x1, x2⟩ := read_arg hTab hF hE hT.1 (hok 0 t v rfl rfl) h1
      obtain ⟨cs, ⟨c1, c2⟩, c3, c4⟩ := read_args hTab hF hE ts Ts vs' ds' q hT.2 h2 (fun j t v a b => hok (j + 1) t v a b)
      refine ⟨⟨T, x⟩ :: cs, ⟨by simp [c1], fun c hc => ?_⟩, by simp [c3], fun j u c hu hc => ?_⟩
      · rcases List.mem_cons.1 hc with rfl | hc
        · exact x2
        · exact c2 c hc
      · cases j with
        | zero => simp only [List.getElem?_cons_zero, Option.some.injEq] at hu hc; subst hu hc; exact x1
        | succ j => exact c4 j u c hu hc

theorem shut_args {P : Program} (hl : laidOutB P = true) {W W' : World} (hb : Below W.heap.size W W') : ∀ (ts : List TypeId) (vs : List Value) (ds : List (DataW H)) (ps : List MemPlace), (∀ t, t ∈ ts → P.readableRec t = true ∧ t < P.types.size) →
    DataW.TrodAll enc P W 0 (fun _ => true) true ts vs ds ps → DataW.TrodAll enc P W' 0 (fun b => decide (b < W.heap.size)) true ts vs ds ps
  | [], vs, ds, ps, _, h => by obtain ⟨rfl, rfl, rfl⟩ := trodAll_nil h; exact trodAll_mk0
  | t :: ts, vs, ds, ps, hr, h => by
    obtain ⟨v, vs', d, ds', p, q, rfl, rfl, rfl, h1, h2⟩ := trodAll_cons h
    have hlt : ∀ x ∈ p, x.block < W.heap.size := by obtain ⟨m, hm⟩ := h1; exact DataW.trod_lt m _ _ _ hm
    exact trodAll_cons_mk (Below.trod hl (hr t (by simp)).1 (hr t (by simp)).2 h1 hb hlt) (shut_args hl hb ts vs' ds' q (fun t ht => hr t (by simp [ht])) h2)
end

/-- A law's row. -/
theorem law_row {Kd : Checked} {C : Ctx S} (hP : C.P = Kd.prog) {f : FuncId} {fn : Func} (hfn : Kd.prog.funcs[f]? = some fn) (own : ownKnob Kd.prog.godebug = none) (noInit : Kd.prog.inits.idxOf? f = none) {s : ChangeSpec} (hv : s.vars = [])
    {ps : List TypeId} (hps : fn.params.toList = ps) (hs : ∀ (H : Type) (ds : List (DataW H)), ds.length = ps.length → s.fn H ds = { results := [.lit (.bool true)], args := ds }) {conds : List PathCond} {rt : TypeId} (hres : fn.resultTypes = #[rt]) (hrt : Kd.prog.underlying rt = some .bool)
    (laid : laidOutB Kd.prog = true) (hread : ps.all (fun t => Kd.prog.readableRec t && decide (t < Kd.prog.types.size)) = true) {sp : Spec S} (hS : SpecOK C f sp) (hty : ps.map C.ty = sp.args.map some) (hTab : TabOK C) (hF : EnvFill C.E) (hE : EnvOK C.E) (hG : ∀ g, C.G g = none)
    (hlaw : ∀ cs, ArgsOK C.E sp.args cs → ∃ r, sp.run cs = some r ∧ sp.enc r = [⟨.bool, true⟩]) (os : Os) (started : os.Started) (H : Type) (enc : TypeId × Value → H)
    (witness : ∃ (w : World) (tape : Tape) (i : Input), w.os = os ∧ (w.forCall tape i).Shaped Kd.prog ∧ i.vars = [] ∧ Input.okWide Kd.prog (w.forCall tape i) .any w.heap.size f i ∧
      s.pre6 enc Kd.prog fn conds false (w.forCall tape i).memory i.args ∧ ({} : Assume).holds Kd.prog (lone (Frame.enter Kd.prog f i.args .normal) [] (w.forCall tape i))) :
    ReturnsInHanded {} Kd os f .any (s.pre6 enc Kd.prog fn conds false) (s.post enc Kd.prog fn false true false false) := by
  refine returnsInHanded_of_change_sized (C := Kd) own started noInit hfn witness ?_
  intro W base args ds gs before hval hW _ _ _
  have hW' := hW
  obtain ⟨p, q, hA, hV, rfl, _, _⟩ := hW
  rw [hv] at hV
  obtain ⟨rfl, rfl⟩ := trodVars_none hV
  rw [hps] at hA
  rw [← hP] at hA
  obtain ⟨cs, c1, c2, c3⟩ := read_args hTab hF hE ps sp.args args.toList ds p hty hA (fun j t v a b => by
    rw [hP]; exact hval j t v (by rw [← hps] at a; simpa using a) (by simpa using b))
  obtain ⟨r, r1, r2⟩ := hlaw cs c1
  have hcalls := hS.2 (sig W) W args cs r (fun g gcs hg => by rw [hG g] at hg; cases hg) (fun b hb => sig_new b hb) ⟨by simpa using c2, fun j v c a b => c3 j v c (by simpa using a) b⟩ r1
  rw [hP] at hcalls hA
  refine hcalls.mono fun e W' he => ?_
  obtain ⟨v, σ', rfl, bel, _, _, hrep⟩ := he
  rw [r2] at hrep
  have hv' : v = .bool true := by
    simp only [encAll, encV] at hrep
    cases hrep with
    | cell h => exact Rep.bool_inv h
  subst hv'
  have hdl : ds.length = ps.length := by
    have : ∀ (ts : List TypeId) (vs : List Value) (ds : List (DataW H)) (ps : List MemPlace), DataW.TrodAll enc Kd.prog W 0 (fun _ => true) true ts vs ds ps → ds.length = ts.length := by
      intro ts
      induction ts with
      | nil => intro vs ds ps h; obtain ⟨_, rfl, _⟩ := trodAll_nil h; rfl
      | cons t ts ih => intro vs ds ps h; obtain ⟨v, vs', d, ds', p, q, rfl, rfl, rfl, _, h2⟩ := trodAll_cons h; simp [ih _ _ _ h2]
    exact this _ _ _ _ hA
  have hsd : s.fn H (ds ++ []) = { results := [.lit (.bool true)], args := ds } := by rw [List.append_nil]; exact hs H ds hdl
  refine ⟨_, rfl, ds, [], p ++ [], [], p, [], hW', ?_, ?_, ?_, bel.frame _, fun h => by cases h⟩
  · rw [hsd, hres]
    exact trodAll_mk1 (shut_bool hrt true)
  · rw [hsd, hps]
    exact shut_args laid bel ps args.toList ds p (fun t ht => by
      have := (List.all_eq_true.1 hread) t ht
      simpa using this) hA
  · rw [hsd, hv]
    exact rfl
end Go.Lv
