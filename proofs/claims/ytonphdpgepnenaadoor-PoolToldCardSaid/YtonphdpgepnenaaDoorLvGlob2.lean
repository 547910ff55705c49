import Derived.Test.YtonphdpgepnenaaDoorLvGlob
namespace Go.Lv
set_option linter.all false
open Go Go.RowKit
variable {S : Nat → Type}
/-- A type's name that one type has alone. -/
theorem ifc_type {P : Program} {name : String} {u0 u : TypeId} (hone : ((List.range P.types.size).filter fun u => P.typeName? 3 u == some name) = [u0]) (hst : name.toList.head? ≠ some (Char.ofNat 42)) (h : P.typeName? 3 u = some name) : u = u0 := by
  by_cases hlt : u < P.types.size
  · have hm : u ∈ (List.range P.types.size).filter fun u => P.typeName? 3 u == some name := List.mem_filter.2 ⟨List.mem_range.2 hlt, by simp [h]⟩
    rw [hone] at hm
    simpa using hm
  · exfalso
    unfold Program.typeName? at h
    cases hi : P.info? u with
    | none => simp [hi] at h
    | some i =>
      have hb := Tables.info?_beyond hlt hi
      simp only [hi] at h
      cases hd : i.desc <;> simp only [hd, TypeDesc.tableOnly] at h hb <;> try cases hb
      all_goals try cases h
      simp only [Option.map_eq_some_iff] at h
      obtain ⟨n', hn', hs⟩ := h
      apply hst
      rw [← hs]
      simp [String.toList_append]
theorem cells_nil {v : Value} (h : v.cells.toList = []) : v = .agg #[] := by
  cases v <;> simp [Value.cells] at h
  subst h; rfl
theorem ifc_laid {E : Env S} {P : Program} {W : World} {e : TypeId} {ms : Array (String × TypeId)} {sp : Nat → Bool} {fuel base : Nat} {name : String} {u0 : TypeId} {fs : Array Field} {enc : TypeId × Value → Unit} (he : P.underlying e = some (.interface ms))
    (hone : ((List.range P.types.size).filter fun u => P.typeName? 3 u == some name) = [u0]) (hst : name.toList.head? ≠ some (Char.ofNat 42)) (hu : P.underlying u0 = some (.struct fs)) (hc : P.cellsOf u0 = 0) (v : Value) (q : List MemPlace) (h : WideElems.elemAt enc P W base sp false fuel e v = some (.iface name (.agg []), q)) : RepV E (gh0 (sig W)) W v (.ifc u0) := by
  unfold WideElems.elemAt at h
  split at h
  · rename_i hf
    obtain ⟨fuel', u, v', h1, h2, h3⟩ := iface_of_trod he h
    have hv : v = .iface u v' := by
      cases v <;> simp [Value.cells, Value.formed, he] at h1 hf ⊢
      · exact h1
    subst hv
    obtain rfl := ifc_type hone hst h2
    cases fuel' with
    | zero => simp [DataW.trod] at h3
    | succ n =>
      simp only [DataW.trod, hu, hc] at h3
      split at h3
      · rename_i hl
        have := cells_nil (List.length_eq_zero_iff.1 hl)
        subst this
        exact .ifc _
      · cases h3
  · cases h
def kindsD (es : List (Int × TypeId × String)) : DataW Unit := .map (es.map fun p => (.int .i64 p.1, .iface p.2.2 (.agg [])))
def kindOK (P : Program) (p : Int × TypeId × String) : Bool :=
  decide (((List.range P.types.size).filter fun u => P.typeName? 3 u == some p.2.2) = [p.2.1]) && (match P.underlying p.2.1 with | some (.struct _) => true | _ => false) && decide (P.cellsOf p.2.1 = 0) && decide (p.2.2.toList.head? ≠ some (Char.ofNat 42))
/-- A variable that holds a map of values that are kinds alone. -/
theorem globAt_kinds {E : Env S} {P : Program} {W : World} {l : List (String × DataW Unit)} {n : String} {es : List (Int × TypeId × String)} {g : Nat} {t k e : TypeId} (h : laidMet P l W) (hm : (n, kindsD es) ∈ l) (hg : P.globalNamed n = some g)
    (hty : (P.globals[g]?).map (·.type) = some t) (ht : P.underlying t = some (.map k e)) (hk : P.underlying k = some (.int .i64)) (hi : (match P.underlying e with | some (.interface _) => true | _ => false) = true) (hall : es.all (kindOK P) = true) : GlobAt E W g [.cmap (es.map fun p => (p.1, V.ifc p.2.1))] := by
  obtain ⟨ms, he⟩ : ∃ ms, P.underlying e = some (.interface ms) := by
    split at hi
    · exact ⟨_, by assumption⟩
    · cases hi
  obtain ⟨ps, hv, _⟩ := h
  obtain ⟨g', t', cs, fuel, p, k1, k2, k3, k4⟩ := laidVars_mem hv _ _ hm
  obtain rfl := Option.some.inj (hg.symm.trans k1)
  obtain rfl := Option.some.inj (hty.symm.trans k2)
  obtain ⟨t1, f1, hh⟩ := var_heap hg k3
  rcases WideElems.open_map ht k4 with ⟨_, hx⟩ | ⟨b, es', clock, m, rfl, hcs, hb, _, F, hx⟩
  · simp [kindsD] at hx
  · simp only [kindsD, Prod.mk.injEq, DataW.map.injEq] at hx
    have hsz : cs.size = 1 := by rw [← Array.length_toList, hcs]; rfl
    refine globAt_of hh (by rw [hsz]; rfl) (by simp) fun j v x q1 q2 => ?_
    cases j with
    | succ j => simp at q2
    | zero =>
      cases q2
      have q3 : cs.toList[0]? = some v := by rw [Array.getElem?_toList]; exact q1
      rw [hcs] at q3
      cases q3
      refine cmap_laid hb hk F hx.1.symm (fun j p hp => ?_) (fun x hx' => ?_)
      · rw [List.getElem?_map, Option.map_eq_some_iff] at hp
        obtain ⟨y, hy, rfl⟩ := hp
        have hmem := List.mem_of_getElem? hy
        have hok := List.all_eq_true.1 hall y hmem
        unfold kindOK at hok
        simp only [Bool.and_eq_true, decide_eq_true_eq] at hok
        obtain ⟨⟨⟨o1, o2⟩, o3⟩, o4⟩ := hok
        split at o2
        · rename_i fs hfs
          exact ⟨_, List.mem_map.2 ⟨y, hmem, rfl⟩, fun v q hq => ifc_laid he o1 o4 hfs o3 v q hq⟩
        · cases o2
      · obtain ⟨y, hy, rfl⟩ := List.mem_map.1 hx'
        obtain ⟨j, hj⟩ := List.getElem?_of_mem hy
        exact ⟨j, (y.1, V.ifc y.2.1), by rw [List.getElem?_map, hj]; rfl, rfl⟩
def boolCells : List Bool → List (V S)
  | [] => []
  | z :: r => .cell .bool z :: boolCells r
theorem boolCells_len : ∀ zs : List Bool, (boolCells (S := S) zs).length = zs.length
  | [] => rfl
  | z :: r => by simp [boolCells, boolCells_len r]
theorem boolCells_get : ∀ (zs : List Bool) (i : Nat) (h : i < zs.length), (boolCells (S := S) zs)[i]? = some (.cell .bool zs[i])
  | z :: r, 0, _ => rfl
  | z :: r, i + 1, h => by
    simp only [boolCells, List.getElem?_cons_succ, List.getElem_cons_succ]
    exact boolCells_get r i (by simpa using h)
def boolsD (bs : List Bool) : DataW Unit := .agg (bs.map fun b => .lit (.bool b))
theorem cells_of_bools {P : Program} {w : World} {base : Nat} {sp : Nat → Bool} {held : Bool} {fuel : Nat} {t e : TypeId} {n : Nat} {cs : List Value} {zs : List Bool} {p : List MemPlace} {enc : TypeId × Value → Unit}
    (ht : P.underlying t = some (.array n e)) (he : P.underlying e = some .bool) (hce : P.cellsOf e = 1) (hct : P.cellsOf t = n)
    (h : DataW.trod enc P w base sp held fuel t cs = some (boolsD zs, p)) : cs = zs.map Value.bool := by
  cases fuel with
  | zero => simp [DataW.trod] at h
  | succ fuel =>
    simp only [DataW.trod, ht, hce, hct, Nat.mul_one] at h
    split at h
    · rename_i hl
      obtain ⟨xs, hm, hx⟩ := Option.map_eq_some_iff.1 h
      have hxs : xs.map (·.1) = zs.map fun z => (DataW.lit (.bool z) : DataW Unit) := by
        have := congrArg Prod.fst hx
        simpa [boolsD] using this
      have hxl : xs.length = n := by simpa using Lib.mapM_length hm
      have hzl : zs.length = n := by
        have := congrArg List.length hxs
        simp at this
        omega
      apply List.ext_getElem?
      intro i
      by_cases hi : i < n
      · obtain ⟨b, hb, hf⟩ := Lib.mapM_at hm i i (by simp [hi])
        have hbo : ∃ z, (cs.drop i).take 1 = [Value.bool z] ∧ b.1 = .lit (.bool z) := by
          cases fuel with
          | zero => simp [DataW.trod] at hf
          | succ fuel =>
            generalize (cs.drop i).take 1 = c at hf
            match c with
            | [] => simp [DataW.trod, he] at hf
            | _ :: _ :: _ => simp [DataW.trod, he] at hf
            | [v] =>
              cases v <;> simp [DataW.trod, he] at hf
              exact ⟨_, rfl, by rw [← hf]⟩
        obtain ⟨z, hc, hbz⟩ := hbo
        have h1 : cs[i]? = some (.bool z) := by
          have := congrArg (·[0]?) hc
          simpa [List.getElem?_take, List.getElem?_drop] using this
        have h2 : (xs.map (·.1))[i]? = some (DataW.lit (.bool z) : DataW Unit) := by simp [hb, hbz]
        rw [hxs] at h2
        simp only [List.getElem?_map, Option.map_eq_some_iff, DataW.lit.injEq, Lit.bool.injEq] at h2
        obtain ⟨z', hz', rfl⟩ := h2
        simp [h1, hz']
      · rw [List.getElem?_eq_none (by omega), List.getElem?_eq_none (by simp; omega)]
    · cases h
/-- A variable that holds an array of truths. -/
theorem globAt_bools {E : Env S} {P : Program} {W : World} {l : List (String × DataW Unit)} {n : String} {zs : List Bool} {g : Nat} {t e : TypeId} {m : Nat} (h : laidMet P l W) (hm : (n, boolsD zs) ∈ l) (hg : P.globalNamed n = some g)
    (hty : (P.globals[g]?).map (·.type) = some t) (ht : P.underlying t = some (.array m e)) (he : P.underlying e = some .bool) (hce : P.cellsOf e = 1) (hct : P.cellsOf t = m) (h0 : 0 < zs.length) : GlobAt E W g (boolCells zs) := by
  obtain ⟨ps, hv, _⟩ := h
  obtain ⟨g', t', cs, fuel, p, k1, k2, k3, k4⟩ := laidVars_mem hv _ _ hm
  obtain rfl := Option.some.inj (hg.symm.trans k1)
  obtain rfl := Option.some.inj (hty.symm.trans k2)
  have hcs := cells_of_bools ht he hce hct k4
  obtain ⟨t1, f1, hh⟩ := var_heap hg k3
  have hsz : cs.size = zs.length := by rw [← Array.length_toList, hcs, List.length_map]
  refine globAt_of hh (by rw [hsz, boolCells_len]) (by rw [boolCells_len]; exact h0) fun j v x q1 q2 => ?_
  have hj : j < zs.length := by rw [← hsz]; exact (Array.getElem?_eq_some_iff.1 q1).1
  rw [boolCells_get zs j hj] at q2
  cases q2
  have q3 : cs.toList[j]? = some v := by rw [Array.getElem?_toList]; exact q1
  rw [hcs, List.getElem?_map, List.getElem?_eq_getElem hj] at q3
  cases q3
  exact .cell (.bool _)
end Go.Lv
