import Derived.Test.YtonphdpgepnenaaDoorLvRest
namespace Go.Lv
set_option linter.all false
open Go Go.RowKit
variable {S : Nat → Type}

theorem decSt_like {E : Env S} {m m' : Mem S} (hl : Like m m') (n : Nat) (z : V S) : decSt E m' n z = decSt E m n z := by
  cases z with
  | agg cs => simp only [decSt]; rw [show decLeaf (S := S) m' = decLeaf m from funext fun t => funext fun z => decLeaf_like hl t z]
  | _ => rfl
theorem dec_like {E : Env S} {m m' : Mem S} (hl : Like m m') (T : Ty) (z : V S) : dec E m' T z = dec E m T z := by
  cases T with
  | st n => exact decSt_like hl n z
  | bool => exact decLeaf_like hl .bool z
  | int k => exact decLeaf_like hl (.int k) z
  | str => exact decLeaf_like hl .str z
  | err => exact decLeaf_like hl .err z
  | fn => exact decLeaf_like hl .fn z
  | slice t => exact decLeaf_like hl (.slice t) z
theorem ofConst_owns (v : Value) : (ofConst v : V S).owns = [] := by
  have h1 : ∀ u : Value, (match (match u with
    | .bool b => (.cell .bool b : V S)
    | .int k n => .cell (.int k) n
    | .string s => .cell .str s.data.toList
    | .slice none 0 0 => .nilS
    | .nilIface => .cell .err false
    | _ => .undef) with | .own id _ => some id | _ => none) = none := by
    intro u
    split
    · rename_i q; split at q <;> cases q
    · rfl
  unfold ofConst
  split <;> try rfl
  simp only [V.owns]
  rw [List.filterMap_eq_nil_iff]
  intro a ha
  obtain ⟨u, _, rfl⟩ := List.mem_map.1 ha
  exact h1 u

/-- One part that is filled in. -/
def fillStep (cells : Array Value) (off : Nat) (v : Array Value) : Array Value := v.zipIdx.foldl (fun cs (c, j) => cs.setIfInBounds (off + j) c) cells

theorem fillList_get (off : Nat) : ∀ (vs : List Value) (n : Nat) (cells : Array Value), off + n + vs.length ≤ cells.size → ∀ k : Nat,
    ((vs.zipIdx n).foldl (fun cs (c, j) => cs.setIfInBounds (off + j) c) cells).size = cells.size ∧
    ((vs.zipIdx n).foldl (fun cs (c, j) => cs.setIfInBounds (off + j) c) cells)[k]? = if off + n ≤ k ∧ k < off + n + vs.length then vs[k - (off + n)]? else cells[k]?
  | [], n, cells, _, k => by simp; omega
  | v :: vs, n, cells, h, k => by
    simp only [List.length_cons] at h
    simp only [List.zipIdx_cons, List.foldl_cons]
    obtain ⟨h1, h2⟩ := fillList_get off vs (n + 1) (cells.setIfInBounds (off + n) v) (by simp; omega) k
    refine ⟨by rw [h1]; simp, ?_⟩
    rw [h2]
    by_cases e : k = off + n
    · subst e
      rw [if_neg (by omega), if_pos (by simp)]
      simp [Array.getElem?_setIfInBounds]; omega
    · by_cases q : off + (n + 1) ≤ k ∧ k < off + (n + 1) + vs.length
      · rw [if_pos q, if_pos (by simp; omega)]
        have : k - (off + n) = (k - (off + (n + 1))) + 1 := by omega
        rw [this, List.getElem?_cons_succ]
      · rw [if_neg q, if_neg (by simp; omega), Array.getElem?_setIfInBounds, if_neg (fun q => e q.symm)]

theorem fillStep_get (cells : Array Value) (off : Nat) (v : Array Value) (h : off + v.size ≤ cells.size) (k : Nat) :
    (fillStep cells off v).size = cells.size ∧ (fillStep cells off v)[k]? = if off ≤ k ∧ k < off + v.size then v[k - off]? else cells[k]? := by
  have := fillList_get off v.toList 0 cells (by simpa using h) k
  have e : fillStep cells off v = (v.toList.zipIdx 0).foldl (fun cs (c, j) => cs.setIfInBounds (off + j) c) cells := by
    unfold fillStep
    rw [← Array.foldl_toList, Array.toList_zipIdx]
  rw [e]
  simpa using this

section
variable {C : Ctx S} {K : Gh} {w : World} {B : Nat} {m : Mem S}

def CellsRep (C : Ctx S) (K : Gh) (w : World) (cs : Array Value) (vs : List (V S)) : Prop :=
  cs.size = vs.length ∧ ∀ (j : Nat) (c : Value) (v : V S), cs[j]? = some c → vs[j]? = some v → RepV C.E K w c v

theorem fill_one {cs : Array Value} {vs : List (V S)} {v : Value} {x : V S} {off : Nat} (h : CellsRep C K w cs vs) (hv : RepV C.E K w v x) (hd : x.defd = true) (hle : off + x.cells.length ≤ vs.length) :
    CellsRep C K w (fillStep cs off v.cells) (setCells vs off x.cells) := by
  obtain ⟨a, b⟩ := hv.cells hd
  have hle' : off + v.cells.size ≤ cs.size := by rw [a, h.1]; exact hle
  refine ⟨by rw [(fillStep_get cs off v.cells hle' 0).1, setCells_len, h.1], fun j c y hc hy => ?_⟩
  rw [(fillStep_get cs off v.cells hle' j).2] at hc
  rw [setCells_get _ _ _ hle] at hy
  rw [a] at hc
  by_cases q : off ≤ j ∧ j < off + x.cells.length
  · rw [if_pos q] at hc hy; exact b _ c y hc hy
  · rw [if_neg q] at hc hy; exact h.2 j c y hc hy

theorem fillV_rep (place : Nat → Option (Nat × Nat)) (s : TypeId) (hp : ∀ i off t n, fieldAt? C s i = some (off, t) → sizeOf? C t = some n → place i = some (off, n)) :
    ∀ (ps : List (Nat × Value)) (qs : List (Nat × V S)) (cs : Array Value) (vs vs' : List (V S)), ps.length = qs.length → (∀ (j : Nat) (p : Nat × Value) (q : Nat × V S), ps[j]? = some p → qs[j]? = some q → p.1 = q.1 ∧ RepV C.E K w p.2 q.2) →
    CellsRep C K w cs vs → fillV C s vs qs = some vs' → ∃ cs', Instr.fill place cs ps = some cs' ∧ CellsRep C K w cs' vs'
  | [], [], cs, vs, vs', _, _, h, hf => by simp only [fillV, Option.some.injEq] at hf; subst hf; exact ⟨cs, rfl, h⟩
  | [], _ :: _, _, _, _, hl, _, _, _ => by simp at hl
  | _ :: _, [], _, _, _, hl, _, _, _ => by simp at hl
  | (i, v) :: ps, (i', x) :: qs, cs, vs, vs', hl, hr, h, hf => by
    obtain ⟨e, hv⟩ := hr 0 _ _ rfl rfl
    simp only at e hv
    subst e
    simp only [fillV] at hf
    split at hf
    · rename_i off t hfa
      split at hf
      · rename_i hc
        obtain ⟨c1, c2, c3⟩ := hc
        have hpl := hp i off t _ hfa c2.symm
        obtain ⟨a, b⟩ := hv.cells c1
        obtain ⟨cs', h1, h2⟩ := fillV_rep place s hp ps qs (fillStep cs off v.cells) _ vs' (by simpa using hl) (fun j p q hp hq => hr (j + 1) p q (by simpa using hp) (by simpa using hq)) (fill_one h hv c1 c3) hf
        refine ⟨cs', ?_, h2⟩
        simp only [Instr.fill, hpl]
        have hcond : ¬ (v.cells.size ≠ x.cells.length || decide (off + v.cells.size > cs.size)) = true := by
          simp only [ne_eq, a, not_true_eq_false, decide_false, Bool.false_or, decide_eq_true_eq]
          rw [h.1]; omega
        rw [if_neg hcond]
        exact h1
      · cases hf
    · cases hf

theorem fillA_rep (sz : Nat) : ∀ (ps : List (Nat × Value)) (qs : List (Nat × V S)) (cs : Array Value) (vs vs' : List (V S)), ps.length = qs.length → (∀ (j : Nat) (p : Nat × Value) (q : Nat × V S), ps[j]? = some p → qs[j]? = some q → p.1 = q.1 ∧ RepV C.E K w p.2 q.2) →
    CellsRep C K w cs vs → fillA sz vs qs = some vs' → ∃ cs', Instr.fill (fun i => some (i * sz, sz)) cs ps = some cs' ∧ CellsRep C K w cs' vs'
  | [], [], cs, vs, vs', _, _, h, hf => by simp only [fillA, Option.some.injEq] at hf; subst hf; exact ⟨cs, rfl, h⟩
  | [], _ :: _, _, _, _, hl, _, _, _ => by simp at hl
  | _ :: _, [], _, _, _, hl, _, _, _ => by simp at hl
  | (i, v) :: ps, (i', x) :: qs, cs, vs, vs', hl, hr, h, hf => by
    obtain ⟨e, hv⟩ := hr 0 _ _ rfl rfl
    simp only at e hv
    subst e
    simp only [fillA] at hf
    split at hf
    · rename_i hc
      obtain ⟨c1, c2, c3⟩ := hc
      obtain ⟨a, b⟩ := hv.cells c1
      obtain ⟨cs', h1, h2⟩ := fillA_rep sz ps qs (fillStep cs (i * sz) v.cells) _ vs' (by simpa using hl) (fun j p q hp hq => hr (j + 1) p q (by simpa using hp) (by simpa using hq)) (fill_one h hv c1 c3) hf
      refine ⟨cs', ?_, h2⟩
      simp only [Instr.fill]
      have hcond : ¬ (v.cells.size ≠ sz || decide (i * sz + v.cells.size > cs.size)) = true := by
        simp only [ne_eq, a, c2, not_true_eq_false, decide_false, Bool.false_or, decide_eq_true_eq]
        rw [h.1]; rw [c2] at c3; omega
      rw [if_neg hcond]
      exact h1
    · cases hf

theorem run_places {P : Program} (fs : List Field) (sz : Field → Nat) (h : ∀ f ∈ fs, (sizeOf f.type).run P w = .ok (sz f) w) :
    (fs.mapM (m := Sem) fun f => do pure (f.offset, ← sizeOf f.type)).run P w = .ok (fs.map fun f => (f.offset, sz f)) w := by
  induction fs with
  | nil => rfl
  | cons f fs ih =>
    rw [List.mapM_cons]
    simp only [Sem.run_bind, h f (by simp), Result.andThen_ok, Sem.run_pure, ih (fun g hg => h g (by simp [hg])), List.map_cons]

theorem build_res (h : RelM C K w B m) {t : TypeId} {ps : Array (Nat × Value)} {qs : List (Nat × V S)} {y : V S} (hl : ps.toList.length = qs.length)
    (hr : ∀ (j : Nat) (p : Nat × Value) (q : Nat × V S), ps.toList[j]? = some p → qs[j]? = some q → p.1 = q.1 ∧ RepV C.E K w p.2 q.2) (hx : (semBuild C t qs).opt = some y) :
    VRes C K w B ((Instr.build t ps).run C.P w) y m := by
  unfold semBuild at hx
  obtain ⟨z, hz, hx⟩ := opt_ofOpt_bind hx
  have hzr : CellsRep C K w z.cells (ofConst z : V S).cells := zero_cells z
  have hzv : (zeroValue t).run C.P w = .ok z w := by
    cases hi : C.P.info? t with
    | none => rw [hi] at hz; cases hz
    | some i => rw [hi] at hz; simp only [Option.bind_some] at hz; simp [zeroValue, typeInfo, hi, hz]
  split at hx
  · rename_i fs hu
    split at hx
    · rename_i hok
      obtain ⟨cs, hf, hx⟩ := opt_ofOpt_bind hx
      simp only [D.opt, Option.some.injEq] at hx
      subst hx
      have hsz : ∀ f ∈ fs.toList, (sizeOf f.type).run C.P w = .ok ((sizeOf? C f.type).getD 0) w := by
        intro f hf
        simp only [fieldsOK, List.all_eq_true] at hok
        obtain ⟨n, hn⟩ := Option.isSome_iff_exists.1 (hok f hf)
        rw [run_sizeOf hn, hn]; rfl
      have hpl := run_places (P := C.P) (w := w) fs.toList (fun f => (sizeOf? C f.type).getD 0) hsz
      have hpl' : (fs.mapM (m := Sem) fun f => do pure (f.offset, ← sizeOf f.type)).run C.P w = .ok ((fs.toList.map fun f => (f.offset, (sizeOf? C f.type).getD 0)).toArray) w := by
        rw [Array.mapM_eq_mapM_toList, Sem.run_map, hpl]; rfl
      obtain ⟨cs', h1, h2⟩ := fillV_rep (C := C) (K := K) (w := w) (fun i => ((fs.toList.map fun f => (f.offset, (sizeOf? C f.type).getD 0)).toArray)[i]?) t (fun i off ft n hfa hn => by
        obtain ⟨fs', x, k, hu', hx', _, e⟩ := field_inv hfa
        rw [hu] at hu'
        cases hu'
        simp only [Prod.mk.injEq] at e
        obtain ⟨rfl, rfl⟩ := e
        simp [hx', hn]) ps.toList qs z.cells _ cs hl hr hzr hf
      refine VRes.pur h ?_ (.agg cs' _ h2.1 h2.2)
      simp only [Instr.build, Sem.run_bind, hzv, Result.andThen_ok, run_underlying hu, hpl', h1, Sem.run_pure]
    · simp [D.opt] at hx
  · rename_i n e hu
    obtain ⟨sz, hs, hx⟩ := opt_ofOpt_bind hx
    obtain ⟨cs, hf, hx⟩ := opt_ofOpt_bind hx
    simp only [D.opt, Option.some.injEq] at hx
    subst hx
    obtain ⟨cs', h1, h2⟩ := fillA_rep (C := C) (K := K) (w := w) sz ps.toList qs z.cells _ cs hl hr hzr hf
    refine VRes.pur h ?_ (.agg cs' _ h2.1 h2.2)
    simp only [Instr.build, Sem.run_bind, hzv, Result.andThen_ok, run_underlying hu, run_sizeOf hs, h1, Sem.run_pure]
  · simp [D.opt] at hx

/-- Parts in their order fill all. -/
theorem fill_all (sz : Nat) : ∀ (vs : List Value) (n : Nat) (cells : Array Value), (∀ v ∈ vs, v.cells.size = sz) → (n + vs.length) * sz ≤ cells.size →
    ∃ c, Instr.fill (fun i => some (i * sz, sz)) cells ((vs.zipIdx n).map fun p => (p.2, p.1)) = some c ∧ c.size = cells.size ∧ (∀ k, k < n * sz → c[k]? = cells[k]?) ∧ (∀ k, (n + vs.length) * sz ≤ k → c[k]? = cells[k]?) ∧
      ∀ (i : Nat) (v : Value) (j : Nat), vs[i]? = some v → j < sz → c[(n + i) * sz + j]? = v.cells[j]?
  | [], n, cells, _, _ => ⟨cells, rfl, rfl, fun _ _ => rfl, fun _ _ => rfl, fun i v j h => by simp at h⟩
  | v :: vs, n, cells, h1, h2 => by
    have hv := h1 v (by simp)
    have hle : n * sz + v.cells.size ≤ cells.size := by
      rw [hv]
      have : (n + 1) * sz ≤ (n + (v :: vs).length) * sz := Nat.mul_le_mul_right _ (by simp)
      rw [Nat.succ_mul] at this; omega
    have hg := fun k => fillStep_get cells (n * sz) v.cells hle k
    obtain ⟨c, c1, c2, c3, c4, c5⟩ := fill_all sz vs (n + 1) (fillStep cells (n * sz) v.cells) (fun u hu => h1 u (by simp [hu])) (by rw [(hg 0).1]; simp only [List.length_cons] at h2; rw [show n + 1 + vs.length = n + (vs.length + 1) by omega]; exact h2)
    refine ⟨c, ?_, by rw [c2, (hg 0).1], fun k hk => ?_, fun k hk => ?_, fun i u j hi hj => ?_⟩
    · simp only [List.zipIdx_cons, List.map_cons, Instr.fill]
      have hcond : ¬ (v.cells.size ≠ sz || decide (n * sz + v.cells.size > cells.size)) = true := by
        simp only [ne_eq, hv, not_true_eq_false, decide_false, Bool.false_or, decide_eq_true_eq]
        rw [hv] at hle; omega
      rw [if_neg hcond]
      exact c1
    · rw [c3 k (by rw [Nat.succ_mul]; omega), (hg k).2, if_neg (by omega)]
    · simp only [List.length_cons] at hk
      have h3 : (n + 1 + vs.length) * sz ≤ k := by rw [show n + 1 + vs.length = n + (vs.length + 1) by omega]; exact hk
      have h4 : (n + 1) * sz ≤ (n + 1 + vs.length) * sz := Nat.mul_le_mul_right _ (by omega)
      rw [c4 k h3, (hg k).2, if_neg (by rw [hv]; rw [Nat.succ_mul] at h4; omega)]
    · cases i with
      | zero =>
        simp at hi
        subst hi
        rw [Nat.add_zero, c3 _ (by rw [Nat.succ_mul]; omega), (hg _).2, if_pos (by rw [hv]; omega)]
        congr 1; omega
      | succ i =>
        have := c5 i u j (by simpa using hi) hj
        rw [show n + (i + 1) = n + 1 + i by omega]; exact this

theorem inOrder_eq : ∀ (n : Nat) (qs : List (Nat × V S)) (vs : List (V S)), inOrder n qs = some vs → qs = (vs.zipIdx n).map fun p => (p.2, p.1)
  | n, [], vs, h => by simp only [inOrder, Option.some.injEq] at h; subst h; rfl
  | n, (i, v) :: r, vs, h => by
    simp only [inOrder] at h
    split at h
    · rename_i e
      subst e
      cases hr : inOrder (i + 1) r with
      | none => rw [hr] at h; cases h
      | some us =>
        rw [hr] at h
        simp only [Option.map_some, Option.some.injEq] at h
        subst h
        simp only [List.zipIdx_cons, List.map_cons]
        rw [← inOrder_eq (i + 1) r us hr]
    · cases h

theorem allM_get {α : Type} : ∀ (l : List (Option α)) (r : List α), allM l = some r → r.length = l.length ∧ ∀ (i : Nat) (x : α), r[i]? = some x → l[i]? = some (some x)
  | [], r, h => by simp only [allM, Option.some.injEq] at h; subst h; simp
  | none :: _, r, h => by simp [allM] at h
  | some a :: l, r, h => by
    simp only [allM] at h
    cases hl : allM l with
    | none => rw [hl] at h; cases h
    | some us =>
      rw [hl] at h
      simp only [Option.map_some, Option.some.injEq] at h
      subst h
      obtain ⟨h1, h2⟩ := allM_get l us hl
      refine ⟨by simp [h1], fun i x hi => ?_⟩
      cases i with
      | zero => simpa using hi
      | succ i => simpa using h2 i x (by simpa using hi)

theorem RelM.stab (h : RelM C K w B m) (o : Obj) (n : Nat) : RelM C { K with σ := fun b => if b = w.heap.size then n else K.σ b } (w.alloc o) B m ∧ Ext K w { K with σ := fun b => if b = w.heap.size then n else K.σ b } (w.alloc o) := by
  have hx : Ext K w { K with σ := fun b => if b = w.heap.size then n else K.σ b } (w.alloc o) := by
    refine ⟨Nat.le_refl _, fun i _ => ⟨Nat.le_refl _, fun _ => ⟨rfl, rfl, rfl⟩⟩, fun b => ?_, fun b k hk => ?_, fun b ob h0 he => ?_, .inr rfl⟩
    · by_cases e : b = w.heap.size
      · subst e; rw [h.new _ (Nat.le_refl _)]; exact Nat.zero_le _
      · simp [e]
    · rcases Nat.lt_or_ge b w.heap.size with q | q
      · exact World.cell?_of_block (heap_old b q)
      · rw [h.new b q] at hk; omega
    · rcases Nat.lt_or_ge b w.heap.size with q | q
      · rw [heap_old b q]; exact keeps.of he
      · rw [h.new b q] at h0; omega
  refine ⟨h.frame hx rfl (fun i _ => ⟨rfl, rfl, rfl, rfl, rfl⟩) (fun i hi hl => heap_old _ (h.blk hi hl)) (fun i hi hl => ?_) (fun b hb => ?_) (by simp) (fun b hb => ?_), hx⟩
  · have := h.blk hi hl
    simp only [ite_eq_right_iff]; intro q; omega
  · simp only [World.size_alloc] at hb
    have : b ≠ w.heap.size := by omega
    simp only [this, if_false]; exact h.new b (by omega)
  · have := h.base
    simp only [ite_eq_right_iff]; intro q; omega

theorem cell_inv {v : Value} {t : Ty} {x : den S t} (h : RepV C.E K w v (.cell t x)) : Rep C.E K.σ w v t x := by
  cases h with | cell h => exact h

theorem encV_cells (E : Env S) (t : Ty) (x : den S t) : (encV E t x).cells = elemCells E t x := by cases t <;> rfl

theorem mark1_len0 (m : Mem S) (i : Nat) : (mark1 m i).length = m.length := by
  unfold mark1; split <;> simp
theorem mark_len' (m : Mem S) : ∀ (g : List Nat), (mark m g).length = m.length := by
  intro g
  induction g generalizing m with
  | nil => rfl
  | cons i g ih => simp only [mark]; rw [ih, mark1_len0]

theorem buildSlice_res (hE : EnvOK C.E) (hT : TyOK C) (h : RelM C K w B m) {t : TypeId} {len : Nat} {ps : Array (Nat × Value)} {qs : List (Nat × V S)} {y : V S} {m' : Mem S} (hl : ps.toList.length = qs.length)
    (hr : ∀ (j : Nat) (p : Nat × Value) (q : Nat × V S), ps.toList[j]? = some p → qs[j]? = some q → p.1 = q.1 ∧ RepV C.E K w p.2 q.2) (hx : (semBS C m t len qs).opt = some (y, m')) :
    VRes C K w B ((Instr.buildSlice t len ps).run C.P w) y m' := by
  unfold semBS at hx
  split at hx
  · rename_i e hu
    obtain ⟨T, hty, hx⟩ := opt_ofOpt_bind hx
    obtain ⟨vs, hin, hx⟩ := opt_ofOpt_bind hx
    obtain ⟨l, hall, hx⟩ := opt_ofOpt_bind hx
    split at hx
    · rename_i hlen
      obtain ⟨hvl, hcap⟩ := hlen
      obtain ⟨i, z, hi, hsz, hz, hzs, hpos, hby⟩ := hT e T hty
      have hqs := inOrder_eq 0 qs vs hin
      obtain ⟨hll, hlg⟩ := allM_get _ _ hall
      simp only [List.length_map] at hll
      obtain ⟨K1, x1, s1, r1, f1⟩ := freeze h (vs.flatMap V.owns)
      -- the parts' values
      obtain ⟨us, hus, hups⟩ : ∃ us : List Value, us.length = vs.length ∧ ps.toList = (us.zipIdx 0).map fun p => (p.2, p.1) := by
        refine ⟨ps.toList.map (·.2), by rw [List.length_map, hl, hqs]; simp, ?_⟩
        apply List.ext_getElem?
        intro j
        simp only [List.getElem?_map, List.getElem?_zipIdx]
        cases hj : ps.toList[j]? with
        | none => simp
        | some p =>
          have hjl : j < qs.length := by rw [← hl]; exact (List.getElem?_eq_some_iff.1 hj).1
          obtain ⟨e1, _⟩ := hr j p qs[j] hj (by simp [hjl])
          have : qs[j].1 = j := by
            have := congrArg (fun l : List (Nat × V S) => l[j]?) hqs
            simp only [List.getElem?_map, List.getElem?_zipIdx] at this
            rw [List.getElem?_eq_getElem hjl] at this
            cases hv : vs[j]? with
            | none => rw [hv] at this; simp at this
            | some v => rw [hv] at this; simp at this; rw [this]
          simp only [Option.map_some]
          rw [Nat.zero_add]
          congr 1
          cases p
          simp only at e1
          rw [e1, this]
      have hur : ∀ (j : Nat) (u : Value) (v : V S), us[j]? = some u → vs[j]? = some v → RepV C.E K w u v := by
        intro j u v hu hv
        refine (hr j (j, u) (j, v) ?_ ?_).2
        · rw [hups]; simp [List.getElem?_map, List.getElem?_zipIdx, hu]
        · rw [hqs]; simp [List.getElem?_map, List.getElem?_zipIdx, hv]
      have hel : ∀ (j : Nat) (u : Value) (x : den S T), us[j]? = some u → l[j]? = some x → RepV C.E K1 w u (encV C.E T x) := by
        intro j u x hu hx
        have hjl : j < vs.length := by rw [← hus]; exact (List.getElem?_eq_some_iff.1 hu).1
        have hdec := hlg j x hx
        rw [List.getElem?_map, List.getElem?_eq_getElem hjl] at hdec
        simp only [Option.map_some, Option.some.injEq] at hdec
        have hdl : dec C.E (mark m (vs.flatMap V.owns)) T vs[j] = some x := by
          have hlk := mark_like m (vs.flatMap V.owns)
          have : dec C.E (mark m (vs.flatMap V.owns)) T vs[j] = dec C.E m T vs[j] := dec_like hlk T vs[j]
          rw [this]; exact hdec
        refine dec_rep hE r1 ((hur j u _ hu (List.getElem?_eq_getElem hjl)).mono x1) hdl ?_
        intro id hid
        exact f1 id (List.mem_flatMap.2 ⟨_, List.getElem_mem hjl, hid⟩)
      have hucell : ∀ u ∈ us, u.cells.size = tsize C.E T := by
        intro u hu
        obtain ⟨j, hj, rfl⟩ := List.getElem_of_mem hu
        have hjl : j < l.length := by rw [hll, ← hus]; exact hj
        have := hel j us[j] l[j] (by simp [hj]) (by simp [hjl])
        have hd : (encV C.E T l[j]).defd = true := by cases T <;> rfl
        rw [(this.cells hd).1, encV_cells, elemCells_eq, List.length_map, cellsOf_len hE]
      let zero : Array Value := if len * i.size = 0 then #[] else z.cells
      let base : Array Value := (Array.range (len * i.size)).map (zero[· % zero.size]!)
      have hbase : base.size = len * tsize C.E T := by simp [base, hsz]
      obtain ⟨c, c1, c2, _, _, c5⟩ := fill_all (tsize C.E T) us 0 base hucell (by rw [hbase, Nat.zero_add, hus, hvl]; exact Nat.le_refl _)
      have hrun : (Instr.buildSlice t len ps).run C.P w = .ok (.slice (some ⟨w.heap.size, 0, none⟩) len len) (w.alloc (.cells c e)) := by
        have hsi : (sizeOf e).run C.P w = .ok i.size w := by simp [sizeOf, typeInfo, hi]
        have hle : ¬ (len * i.size > 2 ^ 24) := by rw [hsz]; omega
        have hfill : Instr.fill (fun k => some (k * i.size, i.size)) ((Array.range (len * i.size)).map (zero[· % zero.size]!)) ps.toList = some c := by
          rw [hups, hsz]
          have : ((Array.range (len * tsize C.E T)).map (zero[· % zero.size]!)) = base := by simp only [base, hsz]
          rw [this]; exact c1
        have hzv : (zeroValue e).run C.P w = .ok z w := by simp [zeroValue, typeInfo, hi, hz]
        by_cases q : len * i.size = 0
        · have hz0 : zero = #[] := by simp [zero, q]
          rw [hz0] at hfill
          simp only [Instr.buildSlice, Sem.run_bind, run_underlying hu, Result.andThen_ok, hsi, if_neg hle, if_pos q, Sem.run_pure, hfill, newRow, run_newObj]
          rfl
        · have hz0 : zero = z.cells := by simp [zero, q]
          rw [hz0] at hfill
          simp only [Instr.buildSlice, Sem.run_bind, run_underlying hu, Result.andThen_ok, hsi, if_neg hle, if_neg q, Sem.run_pure, hzv, hfill, newRow, run_newObj]
          rfl
      have hcell : ∀ (k : Nat) (x : den S T), l[k]? = some x → ∀ (j : Nat) (cl : Cell S), (cellsOf C.E T x)[j]? = some cl → ∃ v, c[k * tsize C.E T + j]? = some v ∧ Rep C.E K1.σ w v cl.t cl.x := by
        intro k x hk j cl hj
        have hkl : k < us.length := by rw [hus, ← hll]; exact (List.getElem?_eq_some_iff.1 hk).1
        have hjt : j < tsize C.E T := by rw [← cellsOf_len hE T x]; exact (List.getElem?_eq_some_iff.1 hj).1
        have hg := c5 k us[k] j (by simp [hkl]) hjt
        rw [Nat.zero_add] at hg
        have hrep := hel k us[k] x (by simp [hkl]) hk
        have hd : (encV C.E T x).defd = true := by cases T <;> rfl
        obtain ⟨q1, q2⟩ := hrep.cells hd
        have hjs : j < us[k].cells.size := by rw [hucell _ (List.getElem_mem hkl)]; exact hjt
        have hcl := q2 j us[k].cells[j] (.cell cl.t cl.x) (by simp [hjs]) (by rw [encV_cells, elemCells_eq, List.getElem?_map, hj]; rfl)
        exact ⟨us[k].cells[j], by rw [hg]; simp [hjs], cell_inv hcl⟩
      cases hown : C.own with
      | true =>
        rw [hown] at hx
        simp only [cond_true, D.opt, Option.some.injEq, Prod.mk.injEq] at hx
        obtain ⟨rfl, rfl⟩ := hx
        have hll' : l.length = len := by rw [hll, hvl]
        obtain ⟨K2, n1, n2, n3, n4⟩ := newArr hE r1 (e := e) (T := T) (l := l) (c := c) (cap := len) (Nat.le_of_eq hll') (by
          have : tsize C.E T = i.size := hsz.symm
          have hp : 0 < tsize C.E T := by rw [this]; exact hpos
          have : len ≤ len * tsize C.E T := Nat.le_mul_of_pos_right _ hp
          simp only [maxLen]; omega) (by rw [c2, hbase]) (.inl rfl) hcell
        rw [mark_len'] at n4
        rw [hll'] at n4
        exact ⟨K2, _, _, hrun, x1.trans n1, n2, n3, n4⟩
      | false =>
      rw [hown] at hx
      simp only [cond_false, D.opt, Option.some.injEq, Prod.mk.injEq] at hx
      obtain ⟨rfl, rfl⟩ := hx
      clear hcell
      by_cases h0 : len = 0
      · subst h0
        simp only [if_true]
        obtain ⟨r2, x2⟩ := r1.stab (.cells c e) 0
        exact ⟨_, _, _, hrun, x1.trans x2, below_alloc h _, r2, .nilS _⟩
      · rw [if_neg h0]
        obtain ⟨r2, x2⟩ := r1.stab (.cells c e) (l.length * tsize C.E T)
        refine ⟨_, _, _, hrun, x1.trans x2, below_alloc h _, r2, ?_⟩
        have hll' : l.length = len := by rw [hll, hvl]
        rw [← hll']
        refine .full (.slice T l w.heap.size 0 l.length (fun j => c.getD j Go.undef) (Nat.le_refl _) ?_ (fun j hj => ?_) (fun k x hk j cl hj => ?_))
        · simp only [if_true]; omega
        · have hjc : j < c.size := by rw [c2, hbase, ← hll']; exact hj
          rw [Nat.zero_add, World.cell?_alloc_new]
          simp [Array.getD, hjc]
        · have hkl : k < us.length := by rw [hus, ← hll]; exact (List.getElem?_eq_some_iff.1 hk).1
          have hjt : j < tsize C.E T := by rw [← cellsOf_len hE T x]; exact (List.getElem?_eq_some_iff.1 hj).1
          have hg := c5 k us[k] j (by simp [hkl]) hjt
          rw [Nat.zero_add] at hg
          have hrep := hel k us[k] x (by simp [hkl]) hk
          have hd : (encV C.E T x).defd = true := by cases T <;> rfl
          obtain ⟨q1, q2⟩ := hrep.cells hd
          have hjs : j < us[k].cells.size := by rw [hucell _ (List.getElem_mem hkl)]; exact hjt
          have hcell := q2 j us[k].cells[j] (.cell cl.t cl.x) (by simp [hjs]) (by rw [encV_cells, elemCells_eq, List.getElem?_map, hj]; rfl)
          have : c.getD (k * tsize C.E T + j) Go.undef = us[k].cells[j] := by
            rw [Array.getD_eq_getD_getElem?, hg]
            simp [hjs]
          rw [this]
          exact (cell_inv hcell).mono x2.σ x2.cell
    · simp [D.opt] at hx
  · simp [D.opt] at hx

theorem okLen_iff {n : Int} (h : okLen n = true) : 0 ≤ n ∧ n ≤ (maxList : Int) := by simpa [okLen] using h

theorem make_res (hE : EnvOK C.E) (hT : TyOK C) (h : RelM C K w B m) {t : TypeId} {vl vc : Value} {l c y : V S} {m' : Mem S} (hl : RepV C.E K w vl l) (hc : RepV C.E K w vc c) (hx : (semMake C m t l c).opt = some (y, m')) :
    VRes C K w B ((Instr.makeSlice t vl vc).run C.P w) y m' := by
  unfold semMake at hx
  split at hx
  · rename_i e hu
    obtain ⟨T, hty, hx⟩ := opt_ofOpt_bind hx
    split at hx
    · rename_i n n' _
      simp only [D.opt] at hx
      cases hb : (ieq n n' && okLen n) with
      | false => rw [hb] at hx; simp at hx
      | true =>
        rw [hb] at hx
        simp only [cond_true] at hx
        simp only [Bool.and_eq_true] at hb
        obtain ⟨hn1, hn2⟩ := hb
        have en : n = n' := ieq_eq hn1
        obtain ⟨h0, h1⟩ := okLen_iff hn2
        obtain ⟨z, hz, hx⟩ := opt_ofOpt_bind hx
        obtain ⟨x, hdx, hx⟩ := opt_ofOpt_bind hx
        simp only [D.opt, Option.some.injEq, Prod.mk.injEq] at hx
        obtain ⟨rfl, rfl⟩ := hx
        obtain ⟨i, z', hi, hsz, hz', hzs, hpos, hby⟩ := hT e T hty
        have ez : z' = z := by rw [hi] at hz; simp only [Option.bind_some] at hz; rw [hz'] at hz; cases hz; rfl
        subst ez
        rw [int_of hl, int_of hc]
        have key : ∀ k : Nat, k ≤ maxList → VRes C K w B ((Instr.makeSlice t (.int .i64 (k : Int)) (.int .i64 (k : Int))).run C.P w) (.own m.length 0) (m ++ [.arr e T (List.replicate k x) 0 false]) := by
          intro k hk
          have hbytes : (i.bytes : Int) * (k : Int) ≤ 281474976710656 := by
            have : i.bytes * k ≤ 1024 * 137438953472 := Nat.mul_le_mul hby hk
            have : ((i.bytes * k : Nat) : Int) ≤ 281474976710656 := by omega
            rwa [Int.natCast_mul] at this
          have hrun := run_make (P := C.P) w t e i z' hu hi hz' .i64 .i64 k k (by omega) (Int.le_refl _) hbytes (by simp only [maxList] at hk; omega)
          rw [Int.toNat_natCast] at hrun
          have hrep := dec_rep hE h (ofConst_rep C.E K w z') hdx (by rw [ofConst_owns]; intro id hid; cases hid)
          have hd : (encV C.E T x).defd = true := by cases T <;> rfl
          obtain ⟨q1, q2⟩ := hrep.cells hd
          obtain ⟨K', k1, k2, k3, k4⟩ := newArr hE h (e := e) (T := T) (l := List.replicate k x) (c := madeCells z'.cells (k * i.size)) (cap := k) (by simp) (by simp only [maxList] at hk; simp only [maxLen]; omega) (by rw [size_madeCells, hsz]) (.inl rfl) (fun a y ha j cl hj => by
            have hak : a < k := by simpa using (List.getElem?_eq_some_iff.1 ha).1
            have : y = x := by
              rw [List.getElem?_replicate] at ha
              split at ha <;> first | (cases ha; rfl) | cases ha
            subst this
            have hjt : j < tsize C.E T := by rw [← cellsOf_len hE T y]; exact (List.getElem?_eq_some_iff.1 hj).1
            have hjz : j < z'.cells.size := by rw [hzs, hsz]; exact hjt
            have hc := q2 j z'.cells[j] (.cell cl.t cl.x) (by simp [hjz]) (by rw [encV_cells, elemCells_eq, List.getElem?_map, hj]; rfl)
            have hlt : a * tsize C.E T + j < k * i.size := by
              rw [hsz]
              have : (a + 1) * tsize C.E T ≤ k * tsize C.E T := Nat.mul_le_mul_right _ hak
              rw [Nat.succ_mul] at this; omega
            refine ⟨z'.cells[j], ?_, cell_inv hc⟩
            have hmod : (a * tsize C.E T + j) % z'.cells.size = j := by
              rw [hzs, hsz, Nat.mul_comm, Nat.mul_add_mod]; exact Nat.mod_eq_of_lt hjt
            simp [madeCells, hlt, hmod, hjz])
          exact ⟨K', _, _, by rw [hrun]; simp, k1, k2, k3, k4⟩
        have key2 : ∀ n : Int, 0 ≤ n → n ≤ (maxList : Int) → VRes C K w B ((Instr.makeSlice t (.int .i64 n) (.int .i64 n)).run C.P w) (.own m.length 0) (m ++ [.arr e T (List.replicate n.toNat x) 0 false]) := by
          intro n h0 h1
          have := key n.toNat (by omega)
          rwa [Int.toNat_of_nonneg h0] at this
        subst en
        exact key2 n h0 h1
    · simp [D.opt] at hx
  · simp [D.opt] at hx
end
end Go.Lv
