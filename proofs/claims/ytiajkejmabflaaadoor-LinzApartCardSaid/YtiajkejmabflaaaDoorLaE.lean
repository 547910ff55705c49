import Derived.Test.YtiajkejmabflaaaDoorLaD
import Derived.Shelf.Strings.Split
import Derived.Shelf.Strings.Cut
import Derived.Shelf.Strings.OnBuilder
import Derived.Shelf.Strconv.Itoa3
import Derived.Shelf.Strconv.AtoiAll
import Derived.Lib.IndexBytes
import Derived.Lib.LaidTab
import Derived.Shelf.SlicesE.Clone
import Derived.Shelf.Spec.SlicesGrow
namespace Go.Lv
set_option linter.all false
open Go Go.RowKit Go.Proofs Go.Shelf
variable {S : Nat → Type}
def lvEntersB (P : Program) (f : FuncId) : Bool := match P.funcs[f]? with
  | some fn => !fn.body.isNone && !(fn.name == "runtime.NumGoroutine")
  | none => false
theorem lvEnters {P : Program} {f : FuncId} (h : lvEntersB P f = true) : Enters P f := by
  unfold lvEntersB at h
  split at h
  · rename_i fn hfn
    simp only [Bool.and_eq_true, Bool.not_eq_true'] at h
    exact ⟨fn, hfn, h.1, h.2⟩
  · cases h
section
variable {C : Ctx S} {σ : Nat → Nat} {w : World}
theorem arr1 {vs : Array Value} {a : Value} (h : vs.size = 1) (h0 : vs[0]? = some a) : vs = #[a] := by
  apply Array.ext
  · simpa using h
  · intro i h1 h2
    have : i = 0 := by simpa using h2
    subst this
    have := (Array.getElem?_eq_some_iff.1 h0).2
    simpa using this
/-- A result that holds no memory. -/
theorem ret_leaf {w' : World} {v : Value} {x : V S} (hnew : ∀ b, w.heap.size ≤ b → σ b = 0) (hb : Below w.heap.size w w') (h : RepV C.E (gh0 σ) w' v x) :
    ∃ u σ', Ending.returned v = Ending.returned u ∧ Below w.heap.size w w' ∧ (∀ b, b < w.heap.size → σ' b = σ b) ∧ (∀ b, w'.heap.size ≤ b → σ' b = 0) ∧ RepV C.E (gh0 σ') w' u x :=
  ⟨v, σ, rfl, hb, fun _ _ => rfl, fun b q => hnew b (Nat.le_trans hb.size q), h⟩
end
end Go.Lv
namespace Go.Lv
set_option linter.all false
open Go Go.RowKit
variable {S : Nat → Type}
theorem laidVars_mem {P : Program} {W : World} : ∀ {l : List (String × DataW Unit)} {ps : List MemPlace}, DataW.LaidVars P W l ps → ∀ n d, (n, d) ∈ l → ∃ g t cs fuel p, P.globalNamed n = some g ∧ (P.globals[g]?).map (·.type) = some t ∧ W.var? P n = some cs ∧
    DataW.trod (fun _ => ()) P W 0 (fun _ => true) false fuel t cs.toList = some (d, p)
  | [], _, _, n, d, h => by cases h
  | (n0, d0) :: r, ps, ⟨g, t, cs, fuel, p, q, h1, h2, h3, h4, h5, _⟩, n, d, h => by
    rcases List.mem_cons.1 h with e | h
    · cases e; exact ⟨g, t, cs, fuel, p, h1, h2, h3, h4⟩
    · exact laidVars_mem h5 n d h
theorem var_heap {P : Program} {W : World} {n : String} {g : Nat} {cs : Array Value} (hg : P.globalNamed n = some g) (h : W.var? P n = some cs) : ∃ t f, W.heap[g]? = some (.cells cs t f) := by
  unfold World.var? at h
  rw [hg] at h
  simp only [Option.bind_some] at h
  split at h
  · rename_i c t f hh; cases h; exact ⟨t, f, hh⟩
  · cases h
def GlobAt (E : Env S) (W : World) (g : Nat) (vs : List (V S)) : Prop :=
  RepV E (gh0 (sig W)) W (.pointer (some ⟨g, 0, none⟩)) (.ro vs) ∧ 0 < sig W g ∧ ∃ c t f, W.heap[g]? = some (.cells c t f) ∧ c.size = vs.length
theorem globAt_of {E : Env S} {W : World} {g : Nat} {vs : List (V S)} {c : Array Value} {t : TypeId} {f : Nat × Nat} (hh : W.heap[g]? = some (.cells c t f)) (hs : c.size = vs.length) (h0 : 0 < vs.length)
    (hr : ∀ (j : Nat) (v : Value) (x : V S), c[j]? = some v → vs[j]? = some x → RepV E (gh0 (sig W)) W v x) : GlobAt E W g vs := by
  have hsig : sig W g = c.size := by unfold sig; rw [hh]
  refine ⟨.ro g 0 vs (fun j => c.getD j Go.undef) (by show 0 + vs.length ≤ sig W g; omega) (fun j hj => ?_) (fun j x hx => ?_), by omega, c, t, f, hh, hs⟩
  · have hjc : j < c.size := by omega
    rw [Nat.zero_add]
    simp [World.cell?, hh, Array.getD, hjc]
  · have hjc : j < c.size := by rw [hs]; exact (List.getElem?_eq_some_iff.1 hx).1
    have : c.getD j Go.undef = c[j] := by simp [Array.getD, hjc]
    simp only [this]
    exact hr j c[j] x (by simp [hjc]) hx
end Go.Lv
namespace Go.Lv
set_option linter.all false
open Go Go.RowKit
variable {S : Nat → Type}
def boolCells : List Bool → List (V S)
  | [] => []
  | z :: r => .cell .bool z :: boolCells r
theorem boolCells_len : ∀ zs : List Bool, (boolCells (S := S) zs).length = zs.length
  | [] => rfl
  | z :: r => by simp [boolCells, boolCells_len r]
theorem boolCells_get : ∀ (zs : List Bool) (i : Nat) (h : i < zs.length), (boolCells (S := S) zs)[i]? = some (.cell .bool zs[i])
  | z :: r, 0, _ => rfl
  | z :: r, i + 1, h => by
    simp only [boolCells, List.getElem?_cons_succ, List.getElem_cons_succ]
    exact boolCells_get r i (by simpa using h)
def boolsD (bs : List Bool) : DataW Unit := .agg (bs.map fun b => .lit (.bool b))
theorem cells_of_bools {P : Program} {w : World} {base : Nat} {sp : Nat → Bool} {held : Bool} {fuel : Nat} {t e : TypeId} {n : Nat} {cs : List Value} {zs : List Bool} {p : List MemPlace} {enc : TypeId × Value → Unit}
    (ht : P.underlying t = some (.array n e)) (he : P.underlying e = some .bool) (hce : P.cellsOf e = 1) (hct : P.cellsOf t = n)
    (h : DataW.trod enc P w base sp held fuel t cs = some (boolsD zs, p)) : cs = zs.map Value.bool := by
  cases fuel with
  | zero => simp [DataW.trod] at h
  | succ fuel =>
    simp only [DataW.trod, ht, hce, hct, Nat.mul_one] at h
    split at h
    · rename_i hl
      obtain ⟨xs, hm, hx⟩ := Option.map_eq_some_iff.1 h
      have hxs : xs.map (·.1) = zs.map fun z => (DataW.lit (.bool z) : DataW Unit) := by
        have := congrArg Prod.fst hx
        simpa [boolsD] using this
      have hxl : xs.length = n := by simpa using Lib.mapM_length hm
      have hzl : zs.length = n := by
        have := congrArg List.length hxs
        simp at this
        omega
      apply List.ext_getElem?
      intro i
      by_cases hi : i < n
      · obtain ⟨b, hb, hf⟩ := Lib.mapM_at hm i i (by simp [hi])
        have hbo : ∃ z, (cs.drop i).take 1 = [Value.bool z] ∧ b.1 = .lit (.bool z) := by
          cases fuel with
          | zero => simp [DataW.trod] at hf
          | succ fuel =>
            generalize (cs.drop i).take 1 = c at hf
            match c with
            | [] => simp [DataW.trod, he] at hf
            | _ :: _ :: _ => simp [DataW.trod, he] at hf
            | [v] =>
              cases v <;> simp [DataW.trod, he] at hf
              exact ⟨_, rfl, by rw [← hf]⟩
        obtain ⟨z, hc, hbz⟩ := hbo
        have h1 : cs[i]? = some (.bool z) := by
          have := congrArg (·[0]?) hc
          simpa [List.getElem?_take, List.getElem?_drop] using this
        have h2 : (xs.map (·.1))[i]? = some (DataW.lit (.bool z) : DataW Unit) := by simp [hb, hbz]
        rw [hxs] at h2
        simp only [List.getElem?_map, Option.map_eq_some_iff, DataW.lit.injEq, Lit.bool.injEq] at h2
        obtain ⟨z', hz', rfl⟩ := h2
        simp [h1, hz']
      · rw [List.getElem?_eq_none (by omega), List.getElem?_eq_none (by simp; omega)]
    · cases h
/-- A variable that holds an array of truths. -/
theorem globAt_bools {E : Env S} {P : Program} {W : World} {l : List (String × DataW Unit)} {n : String} {zs : List Bool} {g : Nat} {t e : TypeId} {m : Nat} (h : laidMet P l W) (hm : (n, boolsD zs) ∈ l) (hg : P.globalNamed n = some g)
    (hty : (P.globals[g]?).map (·.type) = some t) (ht : P.underlying t = some (.array m e)) (he : P.underlying e = some .bool) (hce : P.cellsOf e = 1) (hct : P.cellsOf t = m) (h0 : 0 < zs.length) : GlobAt E W g (boolCells zs) := by
  obtain ⟨ps, hv, _⟩ := h
  obtain ⟨g', t', cs, fuel, p, k1, k2, k3, k4⟩ := laidVars_mem hv _ _ hm
  obtain rfl := Option.some.inj (hg.symm.trans k1)
  obtain rfl := Option.some.inj (hty.symm.trans k2)
  have hcs := cells_of_bools ht he hce hct k4
  obtain ⟨t1, f1, hh⟩ := var_heap hg k3
  have hsz : cs.size = zs.length := by rw [← Array.length_toList, hcs, List.length_map]
  refine globAt_of hh (by rw [hsz, boolCells_len]) (by rw [boolCells_len]; exact h0) fun j v x q1 q2 => ?_
  have hj : j < zs.length := by rw [← hsz]; exact (Array.getElem?_eq_some_iff.1 q1).1
  rw [boolCells_get zs j hj] at q2
  cases q2
  have q3 : cs.toList[j]? = some v := by rw [Array.getElem?_toList]; exact q1
  rw [hcs, List.getElem?_map, List.getElem?_eq_getElem hj] at q3
  cases q3
  exact .cell (.bool _)
end Go.Lv
namespace Go.Lv
set_option linter.all false
open Go Go.RowKit Go.Proofs Go.Shelf Go.Lib
variable {S : Nat → Type}
set_option maxHeartbeats 2000000 in
set_option maxRecDepth 100000 in
/-- slices.Clone of what is not nil, whatever its address. -/
theorem Clone_some {P : Program} {ρ : Ren} (L : SlLaysE0.n41 P ρ) (i0 : TypeInfo) (z : Value) (size bytes : Nat) (hi : P.info? (ρ.t 23) = some i0) (hz0 : i0.zero = some z) (hz1 : i0.size = size) (hz2 : i0.bytes = bytes) (hzs : z.cells.size = size) (hsz : 0 < size)
    (z23 : ∀ w, (Go.sizeOf (ρ.t 23)).run P w = .ok size w) (a : Addr) (n c : Nat) (news : List Value) (w : World) (hl : news.length = n * size) (hn : n ≤ maxLen) (hbig : n * bytes ≤ 140737488355328)
    (hc : ∀ j u, news[j]? = some u → w.cell? (a.add j) = some u) (h1 : ∀ u ∈ news, u.oneCell' = true) :
    Calls P (ρ.f 41) #[.slice (some a) n c] w fun e w' => ∃ v', e = .returned v' ∧ w'.ownsRow w.heap.size (ρ.t 23) size v' n news ∧ v' ≠ .slice none 0 0 ∧ Below w.heap.size w w' := by
  have mixed := L.mixed; have t4 := L.t4; have a4 := L.a4; have z4 := L.z4; have v4 := L.v4; have t22 := L.t22; have a22 := L.a22; have z22 := L.z22; have v22 := L.v22
  have q22 : ∀ (w : World) (a : Option Addr) (n c n' c' : Nat), (binOp .eql (ρ.t 22) (.slice a n c) (.slice none n' c')).run P w = .ok (.bool a.isNone) w := fun w a n c n' c' => Lib.run_eql_slice_nil w _ _ a n c n' c' L.t22
  have u22 : ∀ w, Sem.run P (underlying (ρ.t 22)) w = .ok (TypeDesc.slice (ρ.t 23)) w := run_underlying t22
  have A : Aside (∀ j u, news[j]? = some u → w.cell? (a.add j) = some u) := hc
  clear hc
  obtain ⟨_, _, FG⟩ := L.f41
  go_enter FG, SlBodyN.n41_ntmps ρ
  go_wp2_with (at_builtin; refine wpList_append_own _ rfl _ _ (ρ.t 22) rfl w.heap.size (ρ.t 23) i0 z size bytes t22 hi hz0 hz1 hz2 hzs hsz _ _ _ rfl (World.ownsRow_made w #[] 0 (Nat.le_refl _) (Nat.zero_le _) (by simp)) a n c news rfl ?qc1 ?qc2 ?qc3 ?qc4 ?qc5 ?qc6 ?_)
  case qc1 => exact hl
  case qc2 =>
    intro j u hj
    exact Lib.cell?_alloc_some _ (A.out j u hj)
  case qc3 => exact h1
  case qc4 => rw [Nat.zero_add]; exact hn
  case qc5 => rw [Nat.zero_add]; exact hbig
  case qc6 => simp
  intro v' w1 hown hgrow hnil
  go_wp2
  go_ret
  refine ⟨v', rfl, by simpa using hown, ?_, ?_⟩
  · exact hnil
  · exact ((Below.refl _ w).alloc (Nat.le_refl _) _).grown hgrow (by simp) (by intro k hk; simp [Value.ownBlock] at hk; omega)
/-- A list once more. -/
def cloneF {α : Type} (l : List α) : Option (List α) := if l.length ≤ maxList then some l else none
def spClone (T : Ty) : Spec S := { args := [.slice T], R := List (den S T), run := run1 (.slice T) (cloneF (α := den S T)), enc := enc1 (.slice T) }
theorem ok_Clone {C : Ctx S} {ρ : Ren} {T : Ty} (hE : EnvOK C.E) (hT : TyOK C) (L : SlLaysE0.n41 C.P ρ) (hty : C.ty (ρ.t 23) = some T) (he : Enters C.P (ρ.f 41)) : SpecOK C (ρ.f 41) (spClone T) := by
  refine ⟨he, fun σ w vs cs r hglob hnew hargs hrun => ?_⟩
  obtain ⟨l', hl', h⟩ := inv1 hrun
  obtain ⟨l, hll⟩ : ∃ l : List (den S T), l = l' := ⟨l', rfl⟩
  subst hll
  subst hl'
  have h0 : 0 < vs.size := by rw [hargs.1]; exact Nat.zero_lt_succ _
  have hr1 : Rep C.E σ w vs[0] (.slice T) l := cell_inv (hargs.2 0 vs[0] _ (by simp [h0]) rfl)
  have hv := arr1 hargs.1 (Array.getElem?_eq_getElem h0)
  generalize vs[0] = v0 at hv hr1
  subst hv
  unfold cloneF at h
  split at h
  · rename_i hb
    have h := Option.some.inj h
    subst h
    obtain ⟨i0, z, hi, hsz, hz, hzs, hpos, hby⟩ := hT _ _ hty
    have hmax : l.length ≤ maxLen := by simp only [maxList] at hb; simp only [maxLen]; omega
    have hbytes : l.length * i0.bytes ≤ 140737488355328 := by
      simp only [maxList] at hb
      calc l.length * i0.bytes ≤ 137438953472 * 1024 := Nat.mul_le_mul hb hby
        _ = 140737488355328 := rfl
    have hsize : ∀ w, (Go.sizeOf (ρ.t 23)).run C.P w = .ok i0.size w := fun w => run_sizeOf (by unfold sizeOf?; rw [hi]; rfl)
    cases hr1 with
    | nil _ a cap =>
      cases a with
      | none =>
        refine (AnyE.slices_Clone_nil L 0 cap w).mono ?_
        rintro e w' ⟨rfl, rfl⟩
        exact ret_leaf hnew (Below.refl _ _) (.cell (.nil T none 0))
      | some a =>
        refine (Clone_some L i0 z i0.size i0.bytes hi hz rfl rfl hzs hpos hsize a 0 cap [] w (by simp) (Nat.zero_le _) (by omega) (fun j u hj => by simp at hj) (fun u hu => by cases hu)).mono ?_
        rintro e w' ⟨v', rfl, hown, _, hbl⟩
        refine ret_leaf hnew hbl (.cell ?_)
        rcases hown.2 with ⟨rfl, _⟩ | ⟨g, cap', cur, rfl, _⟩
        · exact .nil T none 0
        · exact .nil T _ cap'
    | slice _ _ b off cap f hcap hst hc hr =>
      by_cases hl0 : l.length = 0
      · have hl : l = [] := List.eq_nil_of_length_eq_zero hl0
        subst hl
        refine (Clone_some L i0 z i0.size i0.bytes hi hz rfl rfl hzs hpos hsize ⟨b, off, none⟩ 0 cap [] w (by simp) (Nat.zero_le _) (by omega) (fun j u hj => by simp at hj) (fun u hu => by cases hu)).mono ?_
        rintro e w' ⟨v', rfl, hown, _, hbl⟩
        refine ret_leaf hnew hbl (.cell ?_)
        rcases hown.2 with ⟨rfl, _⟩ | ⟨g, cap', cur, rfl, _⟩
        · exact .nil T none 0
        · exact .nil T _ cap'
      · refine (AnyE.slices_Clone L i0 z i0.size i0.bytes hi hz rfl rfl hzs hpos hsize b off l.length cap ((List.range (l.length * i0.size)).map f) w (by simp) hmax hbytes (fun j u hj => ?_) (fun u hu => ?_)).mono ?_
        · have hjl : j < l.length * i0.size := by
            have := (List.getElem?_eq_some_iff.1 hj).1
            simpa using this
          rw [List.getElem?_map, List.getElem?_range hjl] at hj
          cases hj
          exact hc j (by rw [← hsz]; exact hjl)
        · obtain ⟨j, hj, rfl⟩ := List.mem_map.1 hu
          have hjl := List.mem_range.1 hj
          have hq : j / i0.size < l.length := by rw [Nat.div_lt_iff_lt_mul hpos]; exact hjl
          obtain ⟨x, hx⟩ : ∃ x : den S T, l[j / i0.size]? = some x := ⟨_, List.getElem?_eq_getElem hq⟩
          have hm : j % i0.size < (cellsOf C.E T x).length := by rw [cellsOf_len hE, ← hsz]; exact Nat.mod_lt _ hpos
          have := hr (j / i0.size) x hx (j % i0.size) _ (List.getElem?_eq_getElem hm)
          rw [← hsz, Nat.div_add_mod'] at this
          exact this.one
        · rintro e w' ⟨v', rfl, hown, _, hbl⟩
          rcases hown.2 with ⟨_, h0⟩ | ⟨g, cap', cur, rfl, hg, hcur, hcap', hcm, hcs, htake⟩
          · exact absurd h0 hl0
          · have hgn : g < w'.heap.size := (Array.getElem?_eq_some_iff.1 hcur).1
            refine ⟨_, fun b => if b = g then l.length * tsize C.E T else σ b, rfl, hbl, fun b hb => by simp only; rw [if_neg (by omega)], fun b hb => by simp only; rw [if_neg (by omega)]; exact hnew b (Nat.le_trans hbl.size hb), .cell ?_⟩
            refine Rep.slice (S := S) T l g 0 cap' f hcap' (by show 0 + List.length l * tsize C.E T ≤ (if g = g then List.length l * tsize C.E T else σ g); rw [if_pos rfl]; omega) (fun j hj => ?_) (fun i x hi2 j c hj => ?_)
            · have hj2 : j < l.length * i0.size := by rw [hsz]; exact hj
              have e1 : (cur.toList.take (l.length * i0.size))[j]? = some (f j) := by rw [htake, List.getElem?_map, List.getElem?_range hj2]; rfl
              rw [List.getElem?_take, if_pos hj2, Array.getElem?_toList] at e1
              rw [Nat.zero_add]
              simp [World.cell?, hcur, e1]
            · refine (hr i x hi2 j c hj).mono (fun b => ?_) (fun b o ho => ?_)
              · show σ b ≤ (if b = g then List.length l * tsize C.E T else σ b)
                split
                · rename_i e1; subst e1; rw [hnew b hg]; exact Nat.zero_le _
                · exact Nat.le_refl _
              · have hbs : b < w.heap.size := by
                  by_cases q : w.heap.size ≤ b
                  · rw [hnew b q] at ho; omega
                  · omega
                have := hbl.block b hbs
                simp [World.cell?, this]
  · cases h
end Go.Lv
namespace Go.Lv
set_option linter.all false
open Go Go.RowKit Go.Proofs
variable {S : Nat → Type}
/-- slices.Grow of the nil slice: an own array of nothing. -/
def growCl (g : FuncId) (e : TypeId) (T : Ty) : Cl S := fun f args m => bif Nat.beq f g then (match args with
  | [.nilS, .cell (.int .i64) n] => .split (okLen n) (.ret (.own m.length 0, m ++ [.arr e T [] 0 false])) .fail
  | _ => .fail) else .fail
theorem growCl_ok {C : Ctx S} (hE : EnvOK C.E) (hT : TyOK C) {g : FuncId} {e : TypeId} {T : Ty} (hi : C.inl = inL [g]) (hen : Enters C.P g) (hty : C.ty e = some T)
    (room : ∀ (a : Option Addr) (w : World), Calls C.P g #[.slice a 0 0, .int .i64 0] w fun x w' => x = .returned (.slice a 0 0) ∧ w' = w)
    (grow : ∀ (i0 : TypeInfo) (z : Value), C.P.info? e = some i0 → i0.zero = some z → 0 < i0.size → ∀ (a : Option Addr) (n : Nat) (w : World), 0 < n → n * i0.bytes ≤ 140737488355328 → n ≤ 4611686018427387904 →
      Calls C.P g #[.slice a 0 0, .int .i64 n] w fun x w' => x = .returned (.slice (some ⟨w.heap.size, 0, none⟩) 0 (grownCap w n 0 e)) ∧ w' = w.drew.alloc (.cells (Builtin.zeroCells z.cells n ++ Builtin.zeroCells z.cells (grownCap w n 0 e - n)) e)) : ClOK C (growCl g e T) := by
  intro f hf
  rw [hi] at hf
  have hfg : f = g := by simpa using inL_mem hf
  subst hfg
  refine ⟨hen, fun K w B m args vs x m' hm hl hr h => ?_⟩
  unfold growCl at h
  have hb : Nat.beq f f = true := Nat.beq_refl f
  rw [hb] at h
  simp only [cond_true] at h
  split at h
  · rename_i n0
    have ex : ∃ n : Int, n0 = n := ⟨n0, rfl⟩
    obtain ⟨n, e0⟩ := ex
    rw [e0] at h hr hl
    simp only [D.opt] at h
    cases ho : okLen n with
    | false => rw [ho] at h; cases h
    | true =>
      rw [ho] at h
      simp only [cond_true, Option.some.injEq, Prod.mk.injEq] at h
      obtain ⟨rfl, rfl⟩ := h
      have ho' : 0 ≤ n ∧ n ≤ (maxList : Int) := by simpa [okLen] using ho
      obtain ⟨v0, v1, rfl⟩ : ∃ v0 v1, vs = #[v0, v1] := by
        obtain ⟨l⟩ := vs
        match l, hl with
        | [a, b], _ => exact ⟨a, b, rfl⟩
      have r0 := hr 0 v0 .nilS rfl rfl
      have r1 := hr 1 v1 (.cell (.int .i64) n) rfl rfl
      cases r0 with
      | nilS a =>
        cases r1 with
        | cell r1 =>
          cases r1
          obtain ⟨i, z, hi0, hsz, hz, hzs, hpos, hby⟩ := hT e T hty
          obtain ⟨k, rfl⟩ : ∃ k : Nat, n = k := ⟨n.toNat, by omega⟩
          by_cases hk : k = 0
          · subst hk
            obtain ⟨K', k1, k2, k3⟩ := newNil (C := C) hm e T a
            refine (room a w).mono ?_
            rintro x w' ⟨rfl, rfl⟩
            exact ⟨_, K', rfl, k1, Below.refl B _, k2, k3⟩
          · have hmax : k ≤ maxList := by omega
            have hm2 : k ≤ maxLen := by simp only [maxList] at hmax; simp only [maxLen]; omega
            have hbytes : k * i.bytes ≤ 140737488355328 := by
              simp only [maxList] at hmax
              calc k * i.bytes ≤ 137438953472 * 1024 := Nat.mul_le_mul hmax hby
                _ = 140737488355328 := by decide
            refine (grow i z hi0 hz hpos a k w (by omega) hbytes (by simp only [maxList] at hmax; omega)).mono ?_
            rintro x w' ⟨rfl, rfl⟩
            have g1 : k ≤ grownCap w k 0 e := grownCap_ge w _ _ _
            have g2 : grownCap w k 0 e ≤ maxLen := grownCap_le_maxLen w _ _ _ hm2
            have hzT : z.cells.size = tsize C.E T := by rw [hzs, hsz]
            obtain ⟨K', k1, k2, k3, k4⟩ := newArr hE hm (e := e) (T := T) (l := []) (c := Builtin.zeroCells z.cells k ++ Builtin.zeroCells z.cells (grownCap w k 0 e - k)) (cap := grownCap w k 0 e) (Nat.zero_le _) g2 (by
              rw [Array.size_append, size_zeroCells, size_zeroCells, hzT, ← Nat.add_mul]; congr 1; omega) (.inr rfl) (fun i x hi => by simp at hi)
            exact ⟨_, K', rfl, k1, k2, k3, k4⟩
  · simp [D.opt] at h
theorem growCl_lay {C : Ctx S} {ρ : Go.Shelf.Ren} (L : Lays8.n4 C.P ρ) (hE : EnvOK C.E) (hT : TyOK C) {g : FuncId} {e : TypeId} {T : Ty} (hi : C.inl = inL [g]) (hen : Enters C.P g) (hty : C.ty e = some T) (hg : ρ.f 4 = g) (he : ρ.t 25 = e) : ClOK C (growCl g e T) := by
  subst hg he
  refine growCl_ok hE hT hi hen hty (fun a w => Any8.slices_Grow_room L a 0 0 0 w (Nat.le_refl _) (by omega) (by omega) (by omega)) fun i0 z h1 h2 h3 a n w h4 h5 h6 => ?_
  have := Any8.slices_Grow_grow L i0 z h1 h2 h3 a 0 0 n [] w (Nat.le_refl _) (by omega) (by simpa using h5) (by omega) (by simp) (fun _ => rfl) (fun _ _ j v q => by simp at q)
  simpa using this
def entersB (P : Program) (f : FuncId) : Bool := match P.funcs[f]? with
  | some fn => !fn.body.isNone && !(fn.name == "runtime.NumGoroutine")
  | none => false
theorem enters_of {P : Program} {f : FuncId} (h : entersB P f = true) : Enters P f := by
  unfold entersB at h
  split at h
  · rename_i fn hfn
    simp only [Bool.and_eq_true, Bool.not_eq_true'] at h
    exact ⟨fn, hfn, h.1, h.2⟩
  · cases h
/-- A forced run over whatever is gone into. -/
theorem runWF_cl {C : Ctx S} {R : Type} (cl : Cl S) (L : (St S → D R) → Lp S R) (f : FuncId) (ts : List Ty) (de : List (Cell S) → Option R) (args : List (V S)) : runW C cl L f ts de args = runWF C cl L f ts de args := by
  unfold runWF runW
  cases body? C f with
  | none => rfl
  | some p => exact (fcT_eq _ _ (fun s => ex C cl (L (finR C p.1 ts de)) (finR C p.1 ts de) fuel [.code p.2] s) fun s h => exF_eq C _ _ _ _ _ s h).symm
theorem roundWF_cl {C : Ctx S} {R : Type} (cl : Cl S) (hd : List Item → St S → Option (St S)) (f : FuncId) (i : Nat) (ts : List Ty) (de : List (Cell S) → Option R) (L : Lp S R) (s : St S) : roundW C cl hd f i ts de L s = roundWF C cl hd f i ts de L s := by
  unfold roundWF roundW
  cases todoOf C f i with
  | nil => rfl
  | cons x k => cases x with
    | inLoop c => exact (fcT_eq _ _ (fun s => ex C cl (canonL hd L) (finW C f ts de) fuel (.code c :: .inLoop c :: k) s) fun s h => exF_eq C _ _ _ _ _ s h).symm
    | _ => rfl
end Go.Lv
