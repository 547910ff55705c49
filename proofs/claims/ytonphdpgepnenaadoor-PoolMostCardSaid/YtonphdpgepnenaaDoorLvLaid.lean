import Derived.Test.YtonphdpgepnenaaDoorLvRow
import Derived.LaidMore
import Derived.LaidHandle
import Derived.LaidLaws
import Derived.Handed
import Derived.WideKeyElems2
namespace Go.Lv
set_option linter.all false
open Go Go.RowKit Go.ChangeShapes Go.WideShapes Go.ChangeAt
variable {S : Nat → Type}

/-- What package-level variables hold. -/
def glL : List (Nat × List (V S)) → Nat → Option (List (V S))
  | [], _ => none
  | p :: r, g => bif Nat.beq p.1 g then some p.2 else glL r g
theorem glL_mem : ∀ {l : List (Nat × List (V S))} {g : Nat} {cs : List (V S)}, glL l g = some cs → (g, cs) ∈ l
  | [], _, _, h => by cases h
  | p :: r, g, cs, h => by
    unfold glL at h
    cases e : Nat.beq p.1 g with
    | true =>
      rw [e] at h
      have e2 := Nat.eq_of_beq_eq_true e
      simp only [cond_true, Option.some.injEq] at h
      subst h e2
      exact List.mem_cons_self
    | false =>
      rw [e] at h
      exact List.mem_cons_of_mem _ (glL_mem h)
theorem globOK_of {C : Ctx S} {l : List (Nat × List (V S))} {W : World} (hl : C.G = glL l) (h : ∀ p, p ∈ l → RepV C.E (gh0 (sig W)) W (.pointer (some ⟨p.1, 0, none⟩)) (.ro p.2) ∧ 0 < sig W p.1 ∧ ∃ c t f, W.heap[p.1]? = some (.cells c t f) ∧ c.size = p.2.length) : GlobOK C (sig W) W := by
  intro g cs hg
  rw [hl] at hg
  exact h (g, cs) (glL_mem hg)
theorem ro_one {E : Env S} {W : World} {g : Nat} {v : Value} {x : V S} (hc : W.cell? ⟨g, 0, none⟩ = some v) (hv : RepV E (gh0 (sig W)) W v x) : RepV E (gh0 (sig W)) W (.pointer (some ⟨g, 0, none⟩)) (.ro [x]) := by
  refine .ro g 0 [x] (fun _ => v) ?_ (fun j hj => ?_) (fun j y hy => ?_)
  · have := sig_cell hc
    show 0 + 1 ≤ sig W g
    omega
  · have : j = 0 := by simpa using hj
    subst this
    exact hc
  · cases j with
    | zero => simp only [List.getElem?_cons_zero, Option.some.injEq] at hy; subst hy; exact hv
    | succ j => simp at hy

theorem keyOf_int {P : Program} {k : TypeId} {v : Value} {l : Lit} (hk : P.underlying k = some (.int .i64)) (h : keyOf P k v = some l) : ∃ n, v = .int .i64 n ∧ l = .int .i64 n := by
  unfold keyOf at h
  rw [hk] at h
  simp only [mapKey, hk] at h
  cases v <;> simp at h
  obtain ⟨⟨h1, h2⟩, h3⟩ := h
  subst h1
  exact ⟨_, rfl, h3.symm⟩
theorem mem_ins {H : Type} : ∀ {l : List (Lit × DataW H)} {y : Lit × DataW H}, y ∈ l.foldr DataW.insert [] ↔ y ∈ l
  | [], y => Iff.rfl
  | x :: l, y => by
    rw [List.foldr_cons, ChangeMaps.mem_insert_iff, mem_ins, List.mem_cons]

section
variable {H : Type} {P : Program} {W : World} {k e : TypeId} {R : Value → Option (DataW H × List MemPlace)} {es : Array MapEntry} {clock : Nat}
open Go.WideElems

/-- A map that reads as a datum: each key's value, whatever the entries' order. -/
theorem cmap_laid {E : Env S} {r : Nat} (hb : W.heap[r]? = some (.map es clock)) (hk : P.underlying k = some (.int .i64)) (F : Fit P k R es clock) {ds : List (Lit × DataW H)} (hd : (es.toList.map (rg P k R)).foldr DataW.insert [] = ds) {l : List (Int × V S)}
    (hl : ∀ (j : Nat) (p : Int × V S), l[j]? = some p → ∃ d, (Lit.int .i64 p.1, d) ∈ ds ∧ ∀ v q, R v = some (d, q) → RepV E (gh0 (sig W)) W v p.2) (hall : ∀ x, x ∈ ds → ∃ (j : Nat) (p : Int × V S), l[j]? = some p ∧ x.1 = Lit.int .i64 p.1) : RepV E (gh0 (sig W)) W (.map (some r)) (.cmap l) := by
  have hkey : ∀ x ∈ es.toList, ∃ n d q, x.key = .int .i64 n ∧ rg P k R x = (.int .i64 n, d) ∧ R x.val = some (d, q) := by
    intro x hx
    obtain ⟨y, hy⟩ := F.reads x hx
    obtain ⟨n, h1, h2⟩ := keyOf_int hk (rd_key hy)
    obtain ⟨z, h3, h4⟩ := rd_val hy
    refine ⟨n, z.1, z.2, h1, ?_, h3⟩
    rw [rg_of hy, ← h2, ← h4]
  have hap : es.toList.Pairwise (fun x y => x.key ≠ y.key) := ((MapKept.stamped_iff es clock).1 F.stamped).2.2
  let ky : Nat → Int := fun i => match es[i]? with | some x => (match x.key with | .int _ n => n | _ => 0) | none => 0
  have hky : ∀ (i : Nat) (x : MapEntry), es[i]? = some x → x.key = .int .i64 (ky i) := by
    intro i x hx
    obtain ⟨n, d, q, h1, _, _⟩ := hkey x (List.mem_of_getElem? (i := i) (by simpa using hx))
    simp only [ky, hx, h1]
  have hfind : ∀ (j : Nat) (p : Int × V S), l[j]? = some p → ∃ i : Nat, ∃ x : MapEntry, es[i]? = some x ∧ x.key = .int .i64 p.1 ∧ RepV E (gh0 (sig W)) W x.val p.2 := by
    intro j p hp
    obtain ⟨d, h1, h2⟩ := hl j p hp
    rw [← hd, mem_ins] at h1
    obtain ⟨x, hx, hx2⟩ := List.mem_map.1 h1
    obtain ⟨i, hi⟩ := List.getElem?_of_mem hx
    obtain ⟨n, d', q, k1, k2, k3⟩ := hkey x hx
    rw [hx2] at k2
    cases k2
    exact ⟨i, x, by simpa using hi, k1, h2 _ q k3⟩
  let Q : Nat → Nat → Prop := fun j i => ∃ x : MapEntry, es[i]? = some x ∧ ∀ p, l[j]? = some p → x.key = Value.int .i64 p.1 ∧ RepV E (gh0 (sig W)) W x.val p.2
  have hu : ∀ i j, i < es.size → j < es.size → ky i = ky j → i = j := by
    intro i j hi hj hij
    have e1 := hky i es[i] (by simp [hi])
    have e2 := hky j es[j] (by simp [hj])
    by_cases hlt : i < j
    · exact absurd (e1.trans ((congrArg (Value.int .i64) hij).trans e2.symm)) (by have := List.pairwise_iff_getElem.1 hap i j (by simpa using hi) (by simpa using hj) hlt; simpa using this)
    · by_cases hgt : j < i
      · exact absurd (e2.trans ((congrArg (Value.int .i64) hij.symm).trans e1.symm)) (by have := List.pairwise_iff_getElem.1 hap j i (by simpa using hj) (by simpa using hi) hgt; simpa using this)
      · omega
  have hQ : ∀ j, j < l.length → Q j (Classical.epsilon (Q j)) := by
    intro j hj
    obtain ⟨i, x, h1, h2, h3⟩ := hfind j l[j] (List.getElem?_eq_getElem hj)
    have hex : ∃ i, Q j i := ⟨i, x, h1, fun p hp => by
      rw [List.getElem?_eq_getElem hj, Option.some.injEq] at hp
      subst hp
      exact ⟨h2, h3⟩⟩
    exact Classical.epsilon_spec hex
  have hix : ∀ j, j < l.length → Classical.epsilon (Q j) < es.size := fun j hj => by
    obtain ⟨x, k1, _⟩ := hQ j hj
    exact (Array.getElem?_eq_some_iff.1 k1).1
  have hkk : ∀ (j : Nat) (p : Int × V S), l[j]? = some p → ky (Classical.epsilon (Q j)) = p.1 := fun j p hp => by
    obtain ⟨x, k1, k2⟩ := hQ j (List.getElem?_eq_some_iff.1 hp).1
    have := (hky _ x k1).symm.trans (k2 p hp).1
    simpa using this
  refine .cmap r es clock l (fun j => Classical.epsilon (Q j)) ky ?_ hb hky hu hix hkk ?_ ?_
  · show 0 < sig W r
    unfold sig; rw [hb]; exact Nat.one_pos
  · intro i hi
    obtain ⟨n, d, q, h1, h2, h3⟩ := hkey es[i] (by simp)
    have hm : (Lit.int .i64 n, d) ∈ ds := by
      rw [← hd, mem_ins, ← h2]
      exact List.mem_map.2 ⟨es[i], by simp, rfl⟩
    obtain ⟨j, p, hp, hpn⟩ := hall _ hm
    have hj := (List.getElem?_eq_some_iff.1 hp).1
    refine ⟨j, hj, hu _ _ (hix j hj) hi ?_⟩
    have e1 := hky i es[i] (by simp [hi])
    rw [h1] at e1
    have e2 : n = ky i := by simpa using e1
    have e3 : n = p.1 := by simpa using hpn
    rw [hkk j p hp, ← e2, e3]
  · intro j x2 p hx2 hp
    obtain ⟨x, k1, k2⟩ := hQ j (List.getElem?_eq_some_iff.1 hp).1
    rw [k1, Option.some.injEq] at hx2
    subst hx2
    exact (k2 p hp).2
end

/-- A function's cell out of its name. -/
theorem clo_laid {E : Env S} {P : Program} {W : World} {e : TypeId} {ps rs : Array TypeId} {va : Bool} {sp : Nat → Bool} {fuel base : Nat} {b : UInt8} {r : List UInt8} {f0 : FuncId} (he : P.underlying e = some (.func ps rs va))
    (hone : ((List.range P.funcs.size).filter fun f => (P.funcs[f]?).any (·.name.toUTF8.data.toList == b :: r)) = [f0]) (v : Value) (q : List MemPlace) (h : WideElems.elemAt (funcToken P) P W base sp true fuel e v = some (.held (b :: r), q)) : RepV E (gh0 (sig W)) W v (.clo f0 [] []) := by
  have hv : v = .func (.func f0) #[] #[] := by
    unfold WideElems.elemAt at h
    split at h
    · rename_i hf
      have hc : v.cells.toList = [v] := by
        cases v <;> first | rfl | (simp [Value.formed, he] at hf)
      rw [hc] at h
      exact func_of_trod he hone h
    · cases h
  subst hv
  exact .clo f0 #[] #[] [] [] rfl rfl (fun j c v h => by simp at h) (fun j c v h => by simp at h)

/-- A law's row, where package-level variables hold what the text lays. -/
theorem law_row_laid {H : Type} {enc : TypeId × Value → H} {Kd : Checked} {C : Ctx S} (hP : C.P = Kd.prog) {f : FuncId} {fn : Func} (hfn : Kd.prog.funcs[f]? = some fn) (own : ownKnob Kd.prog.godebug = none) (noInit : Kd.prog.inits.idxOf? f = none) {s : ChangeSpec} (hv : s.vars = [])
    {ps : List TypeId} (hps : fn.params.toList = ps) (hs : ∀ (H : Type) (ds : List (DataW H)), ds.length = ps.length → s.fn H ds = { results := [.lit (.bool true)], args := ds }) {rt : TypeId} (hres : fn.resultTypes = #[rt]) (hrt : Kd.prog.underlying rt = some .bool)
    (laid : laidOutB Kd.prog = true) (hread : ps.all (fun t => Kd.prog.readableRec t && decide (t < Kd.prog.types.size)) = true) {sp : Spec S} (hS : SpecOK C f sp) (hty : ps.map C.ty = sp.args.map some) (hTab : TabOK C) (hF : EnvFill C.E) (hE : EnvOK C.E)
    {X : World → Prop} (hX : ∀ w w' : World, w.heap = w'.heap → X w → X w') (hG : ∀ W, X W → GlobOK C (sig W) W)
    (hlaw : ∀ cs, ArgsOK C.E sp.args cs → ∃ r, sp.run cs = some r ∧ sp.enc r = [⟨.bool, true⟩]) (os : Os) (started : os.Started)
    (witness : ∃ (w : World) (tape : Tape) (i : Input), w.os = os ∧ (w.forCall tape i).Shaped Kd.prog ∧ i.vars = [] ∧ Input.okWide Kd.prog (w.forCall tape i) .any w.heap.size f i ∧
      ((s.pre enc Kd.prog fn [] false (w.forCall tape i).memory i.args ∧ X (w.forCall tape i).memory) ∧ sizedMet enc Kd.prog fn (OpenSpec.ofChange s) false (w.forCall tape i).memory i.args) ∧ ({} : Assume).holds Kd.prog (lone (Frame.enter Kd.prog f i.args .normal) [] (w.forCall tape i))) :
    ReturnsInHanded {} Kd os f .any (fun w args => (s.pre enc Kd.prog fn [] false w args ∧ X w) ∧ sizedMet enc Kd.prog fn (OpenSpec.ofChange s) false w args) (s.post enc Kd.prog fn false true false false) := by
  refine returnsInHanded_of_change_and (C := Kd) (X := fun w _ => X w) (fun w w' _ hh h => hX w w' hh h) own started noInit hfn witness ?_
  intro W base args ds gs before hval hW _ _ hL _
  have hW' := hW
  obtain ⟨p, q, hA, hV, rfl, _, _⟩ := hW
  rw [hv] at hV
  obtain ⟨rfl, rfl⟩ := trodVars_none hV
  rw [hps] at hA
  rw [← hP] at hA
  obtain ⟨cs, c1, c2, c3⟩ := read_args hTab hF hE ps sp.args args.toList ds p hty hA (fun j t v a b => by
    rw [hP]; exact hval j t v (by rw [← hps] at a; simpa using a) (by simpa using b))
  obtain ⟨r, r1, r2⟩ := hlaw cs c1
  have hcalls := hS.2 (sig W) W args cs r (hG W hL) (fun b hb => sig_new b hb) ⟨by simpa using c2, fun j v c a b => c3 j v c (by simpa using a) b⟩ r1
  rw [hP] at hcalls hA
  refine hcalls.mono fun e W' he => ?_
  obtain ⟨v, σ', rfl, bel, _, _, hrep⟩ := he
  rw [r2] at hrep
  have hv' : v = .bool true := by
    simp only [encAll, encV] at hrep
    cases hrep with
    | cell h => exact Rep.bool_inv h
  subst hv'
  have hdl : ds.length = ps.length := by
    have : ∀ (ts : List TypeId) (vs : List Value) (ds : List (DataW H)) (ps : List MemPlace), DataW.TrodAll enc Kd.prog W 0 (fun _ => true) true ts vs ds ps → ds.length = ts.length := by
      intro ts
      induction ts with
      | nil => intro vs ds ps h; obtain ⟨_, rfl, _⟩ := trodAll_nil h; rfl
      | cons t ts ih => intro vs ds ps h; obtain ⟨v, vs', d, ds', p, q, rfl, rfl, rfl, _, h2⟩ := trodAll_cons h; simp [ih _ _ _ h2]
    exact this _ _ _ _ hA
  have hsd : s.fn H (ds ++ []) = { results := [.lit (.bool true)], args := ds } := by rw [List.append_nil]; exact hs H ds hdl
  refine ⟨_, rfl, ds, [], p ++ [], [], p, [], hW', ?_, ?_, ?_, bel.frame _, fun h => by cases h⟩
  · rw [hsd, hres]
    exact trodAll_mk1 (shut_bool hrt true)
  · rw [hsd, hps]
    exact shut_args laid bel ps args.toList ds p (fun t ht => by
      have := (List.all_eq_true.1 hread) t ht
      simpa using this) hA
  · rw [hsd, hv]
    exact rfl
end Go.Lv
