import Derived.Test.YtonphdpgepnenaaDoorLvMake
namespace Go.Lv
set_option linter.all false
open Go Go.RowKit
variable {S : Nat → Type}

section
variable {C : Ctx S} {K : Gh} {w : World} {B : Nat} {m : Mem S}

/-- The cells of what is read as a list. -/
theorem list_cells (hE : EnvOK C.E) (h : RelM C K w B m) {T : Ty} {v : Value} {x : V S} {l : List (den S T)} (hv : RepV C.E K w v x) (hd : listOf m T x = some l) :
    ∃ ad cap, v = .slice ad l.length cap ∧ ∃ cs : List Value, cs.length = l.length * tsize C.E T ∧ (∀ a, ad = some a → ∀ j v, cs[j]? = some v → w.cell? (a.add j) = some v) ∧ (ad = none → cs = []) ∧ (∀ u ∈ cs, u.oneCell' = true) ∧
      ∀ (i : Nat) (x : den S T), l[i]? = some x → ∀ (j : Nat) (cl : Cell S), (cellsOf C.E T x)[j]? = some cl → ∃ v, cs[i * tsize C.E T + j]? = some v ∧ Rep C.E K.σ w v cl.t cl.x := by
  obtain ⟨K1, x1, s1, r1, f1⟩ := freeze h x.owns
  have hd1 : decLeaf (mark m x.owns) (.slice T) x = some l := by rw [decLeaf_like (mark_like m _)]; exact hd
  have hr : Rep C.E K1.σ w v (.slice T) l := decLeaf_rep r1 (hv.mono x1) hd1 (fun id g e => by subst e; exact f1)
  obtain ⟨ad, cap, ev, _⟩ := rep_slice hr
  rw [ev] at hr
  obtain ⟨_, cs, c1, c2, c3, c4, c5⟩ := rep_cells hE hr
  refine ⟨ad, cap, ev, cs, c1, c2, c3, c4, ?_⟩
  -- at the ghost as it was
  cases hv with
  | @cell _ t' x' hx =>
    simp only [listOf, decLeaf] at hd
    split at hd
    · rename_i e
      subst e
      cases hd
      rw [ev] at hx
      obtain ⟨_, ds, d1, d2, d3, d4, d5⟩ := rep_cells hE hx
      intro i x hi j cl hj
      obtain ⟨u, u1, u2⟩ := d5 i x hi j cl hj
      obtain ⟨u', u1', u2'⟩ := c5 i x hi j cl hj
      refine ⟨u', u1', ?_⟩
      cases ad with
      | none => rw [c3 rfl] at u1'; simp at u1'
      | some a =>
        have e1 := c2 a rfl _ _ u1'
        have e2 := d2 a rfl _ _ u1
        rw [e1] at e2
        cases e2
        exact u2
    · cases hd
  | @full a t' l' hx =>
    simp only [listOf, decLeaf] at hd
    split at hd
    · rename_i e
      simp only [Ty.slice.injEq] at e
      subst e
      cases hd
      rw [ev] at hx
      obtain ⟨_, ds, d1, d2, d3, d4, d5⟩ := rep_cells hE hx
      intro i x hi j cl hj
      obtain ⟨u, u1, u2⟩ := d5 i x hi j cl hj
      obtain ⟨u', u1', u2'⟩ := c5 i x hi j cl hj
      refine ⟨u', u1', ?_⟩
      cases ad with
      | none => rw [c3 rfl] at u1'; simp at u1'
      | some a =>
        have e1 := c2 a rfl _ _ u1'
        have e2 := d2 a rfl _ _ u1
        rw [e1] at e2
        cases e2
        exact u2
    · cases hd
  | nilS a =>
    simp only [listOf, decLeaf] at hd
    cases hd
    intro i x hi; simp at hi
  | own id g v hn hg hp hh =>
    simp only [listOf, decLeaf] at hd
    split at hd
    · rename_i e t' l' g' fz hm
      split at hd
      · rename_i eg
        subst eg
        split at hd
        · rename_i et
          simp only [Ty.slice.injEq] at et
          subst et
          cases hd
          intro i x hi j cl hj
          obtain ⟨q1, q2, q3, c, cp, q4, q5, q6, q7, q8, q9, q10, q11, q12⟩ := arr_cells hE h hm hi
          obtain ⟨u, u1, u2⟩ := q12 i x hi j cl hj
          obtain ⟨u', u1', u2'⟩ := c5 i x hi j cl hj
          refine ⟨u', u1', ?_⟩
          have hv' := hh q1
          rw [q4, ev] at hv'
          simp only [Value.slice.injEq] at hv'
          have e1 := c2 _ hv'.1 _ _ u1'
          rw [add_lit] at e1
          have hlt := (Array.getElem?_eq_some_iff.1 u1).1
          simp only [World.cell?, q5, Nat.zero_add, Option.isSome_none, Bool.false_eq_true, if_false] at e1
          rw [u1] at e1
          cases e1
          exact u2
        · cases hd
      · cases hd
    · cases hd
  | clo f a b a' b' h1 h2 hf' hc =>
    cases a' <;> cases b' <;> simp [listOf, decLeaf] at hd
  | agg => simp [listOf, decLeaf] at hd
  | ptr => simp [listOf, decLeaf] at hd
  | eptr => simp [listOf, decLeaf] at hd
  | ro => simp [listOf, decLeaf] at hd
  | tup => simp [listOf, decLeaf] at hd
  | cmap => simp [listOf, decLeaf] at hd
  | ifc => simp [listOf, decLeaf] at hd
  | mapr => simp [listOf, decLeaf] at hd
  | undef => simp [listOf, decLeaf] at hd

theorem run_append_zero {P : Program} (w : World) (t ty e : TypeId) (i : TypeInfo) (ht : P.underlying t = some (.slice e)) (hi : P.info? e = some i) (base ad : Option Addr) (n cap c : Nat) (h : n ≤ cap) :
    (Builtin.append_ #[t, t] ty #[.slice base n cap, .slice ad 0 c]).run P w = .ok (.slice base n cap) w := by
  cases base <;> cases ad <;> simp [Builtin.append_, run_underlying ht, sizeOf, typeInfo, hi, Builtin.lenOf, Builtin.firstCells, loadCells, loadCellsFrom, storeCells, h]

/-- The row that grows: what a new block holds. -/
theorem grown_row (hE : EnvOK C.E) {T : Ty} {l ys : List (den S T)} {cs ds : List Value} {z : Value} {cap : Nat} (hz : z.cells.size = tsize C.E T) (hl : cs.length = l.length * tsize C.E T) (hy : ds.length = ys.length * tsize C.E T) (hcap : l.length + ys.length ≤ cap) :
    (cs.toArray ++ ds.toArray ++ Builtin.zeroCells z.cells (cap - (l.length + ys.length))).size = cap * tsize C.E T := by
  simp only [Array.size_append, List.size_toArray, size_zeroCells, hz, hl, hy, ← Nat.add_mul]
  congr 1; omega

def Gh.upd (K : Gh) (id b : Nat) (hv : Value) (g : Nat) : Gh :=
  { K with ι := fun i => if i = id then b else K.ι i, hv := fun i => if i = id then hv else K.hv i, gen := fun i => if i = id then g else K.gen i, live := fun i => if i = id then true else K.live i }
theorem Gh.upd_at (K : Gh) (id b : Nat) (hv : Value) (g : Nat) {i : Nat} (h : i ≠ id) : K.at (K.upd id b hv g) i := by simp [Gh.at, Gh.upd, h]

theorem append_res (hE : EnvOK C.E) (hT : TyOK C) (h : RelM C K w B m) {t ty e : TypeId} {T : Ty} (hu : C.P.underlying t = some (.slice e)) (hty : C.ty e = some T) {vs vx : Value} {s x y : V S} {m' : Mem S}
    (hvs : RepV C.E K w vs s) (hvx : RepV C.E K w vx x) (hx : (semAppend m e T s x).opt = some (y, m')) :
    VRes C K w B ((Builtin.append_ #[t, t] ty #[vs, vx]).run C.P w) y m' := by
  obtain ⟨i, z, hi, hsz, hz, hzs, hpos, hby⟩ := hT e T hty
  unfold semAppend at hx
  obtain ⟨ys, hys, hx⟩ := opt_ofOpt_bind hx
  obtain ⟨ad, cx, rfl, ds, d1, d2, d3, d4, d5⟩ := list_cells hE h hvx hys
  have hzT : z.cells.size = tsize C.E T := by rw [hzs, hsz]
  -- growing into a new block
  have grow : ∀ (l : List (den S T)) (cs : List Value) (base : Option Addr) (cap : Nat), cs.length = l.length * tsize C.E T → (base = none → l = [] ∧ cap = 0) → (∀ b, base = some b → ∀ j v, cs[j]? = some v → w.cell? (b.add j) = some v) →
      l.length ≤ cap → cap < l.length + ys.length → l.length + ys.length ≤ maxList →
      ∃ cap', (Builtin.append_ #[t, t] ty #[.slice base l.length cap, .slice ad ys.length cx]).run C.P w =
          .ok (.slice (some ⟨w.heap.size, 0, none⟩) (l ++ ys).length cap') (w.drew.alloc (.cells (cs.toArray ++ ds.toArray ++ Builtin.zeroCells z.cells (cap' - (l.length + ys.length))) e)) ∧ l.length + ys.length ≤ cap' ∧ cap' ≤ maxLen := by
    intro l cs base cap hcs hb0 hbc hlc hgt hmax
    have hm : l.length + ys.length ≤ maxLen := by simp only [maxList] at hmax; simp only [maxLen]; omega
    have hbytes : (l.length + ys.length) * i.bytes ≤ 140737488355328 := by
      simp only [maxList] at hmax
      calc (l.length + ys.length) * i.bytes ≤ 137438953472 * 1024 := Nat.mul_le_mul hmax hby
        _ = 140737488355328 := by decide
    have h63 : ((l.length + ys.length : Nat) : Int) ≤ 9223372036854775807 := by simp only [maxList] at hmax; omega
    refine ⟨grownCap w (l.length + ys.length) cap e, ?_, grownCap_ge _ _ _ _, grownCap_le_maxLen _ _ _ _ hm⟩
    have hd1' : ds.length = ys.length * i.size := by rw [d1, hsz]
    by_cases hy0 : ys.length = 0
    · omega
    · cases ad with
      | none =>
        have := d3 rfl
        subst this
        simp only [List.length_nil] at hd1'
        have hp : 0 < ys.length * i.size := Nat.mul_pos (by omega) hpos
        omega
      | some a =>
        cases base with
        | none =>
          obtain ⟨rfl, rfl⟩ := hb0 rfl
          have hcs0 : cs = [] := List.eq_nil_of_length_eq_zero (by rw [hcs]; simp)
          subst hcs0
          have := run_append_nil (P := C.P) w t ty e i z hu hi hz a ys.length cx ds hd1' (d2 a rfl) (by omega) (by simpa using h63) (by simp only [List.length_nil, Nat.zero_add] at hbytes; omega)
          simpa using this
        | some b =>
          have := run_append_grow (P := C.P) w t ty e i z hu hi hz b l.length cap cs (by rw [hcs, hsz]) (hbc b rfl) a ys.length cx ds hd1' (d2 a rfl) hgt h63 (growslice_fits hgt hbytes)
          rw [this]; simp
  -- a new own array out of it
  have fresh : ∀ (l : List (den S T)) (cs : List Value) (base : Option Addr) (cap : Nat), cs.length = l.length * tsize C.E T → (base = none → l = [] ∧ cap = 0) → (∀ b, base = some b → ∀ j v, cs[j]? = some v → w.cell? (b.add j) = some v) →
      (∀ (i : Nat) (x : den S T), l[i]? = some x → ∀ (j : Nat) (cl : Cell S), (cellsOf C.E T x)[j]? = some cl → ∃ v, cs[i * tsize C.E T + j]? = some v ∧ Rep C.E K.σ w v cl.t cl.x) →
      l.length ≤ cap → cap < l.length + ys.length → l.length + ys.length ≤ maxList →
      VRes C K w B ((Builtin.append_ #[t, t] ty #[.slice base l.length cap, .slice ad ys.length cx]).run C.P w) (.own m.length 0) (m ++ [.arr e T (l ++ ys) 0 false]) := by
    intro l cs base cap hcs hb0 hbc hrep hlc hgt hmax
    obtain ⟨cap', hrun, g1, g2⟩ := grow l cs base cap hcs hb0 hbc hlc hgt hmax
    have hrow := grown_row (C := C) hE (l := l) (ys := ys) hzT hcs d1 g1
    obtain ⟨K', k1, k2, k3, k4⟩ := newArr hE h (e := e) (T := T) (l := l ++ ys) (cap := cap') (by simpa using g1) g2 hrow (.inr rfl) (fun i x hi j cl hj => by
      obtain ⟨v, r1, r2⟩ := app_cells (C := C) (w := w) hcs hrep d5 i x hi j cl hj
      refine ⟨v, ?_, r2⟩
      have hlt := (List.getElem?_eq_some_iff.1 r1).1
      have he : (cs.toArray ++ ds.toArray ++ Builtin.zeroCells z.cells (cap' - (l.length + ys.length)))[i * tsize C.E T + j]? = (cs ++ ds)[i * tsize C.E T + j]? := by
        rw [Array.getElem?_append_left (by simpa using hlt)]
        simp
      rw [he]; exact r1)
    exact ⟨K', _, _, hrun, k1, k2, k3, k4⟩
  have lens : ∀ {n : Nat}, (decide (n ≤ maxList)) = true → n ≤ maxList := fun h => by simpa using h
  cases hvs with
  | nilS a =>
    simp only [D.opt] at hx
    by_cases hmax : ys.length ≤ maxList
    · simp only [hmax, decide_true, cond_true, Option.some.injEq, Prod.mk.injEq] at hx
      obtain ⟨rfl, rfl⟩ := hx
      by_cases hy0 : ys.length = 0
      · have : ys = [] := List.eq_nil_of_length_eq_zero hy0
        subst this
        obtain ⟨K', k1, k2, k3⟩ := newNil (C := C) h e T a
        exact ⟨K', w, _, run_append_zero w t ty e i hu hi a ad 0 0 cx (Nat.le_refl _), k1, Below.refl B w, k2, k3⟩
      · have := fresh [] [] a 0 (by simp) (fun _ => ⟨rfl, rfl⟩) (fun _ _ j v q => by simp at q) (fun i x q => by simp at q) (by simp) (by simp; omega) (by simpa using hmax)
        simpa using this
    · simp [hmax] at hx
  | @full a t' l hr =>
    simp only at hx
    split at hx
    · rename_i et
      subst et
      simp only [D.opt] at hx
      cases hye : ys.isEmpty with
      | true =>
        rw [hye] at hx
        simp only [cond_true, Option.some.injEq, Prod.mk.injEq] at hx
        obtain ⟨rfl, rfl⟩ := hx
        have : ys = [] := by simpa using hye
        subst this
        exact VRes.pur h (run_append_zero w t ty e i hu hi a ad _ _ cx (Nat.le_refl _)) (.full hr)
      | false =>
        rw [hye] at hx
        simp only [cond_false] at hx
        by_cases hmax : l.length + ys.length ≤ maxList
        · simp only [hmax, decide_true, cond_true, Option.some.injEq, Prod.mk.injEq] at hx
          obtain ⟨rfl, rfl⟩ := hx
          have hpos' : 0 < ys.length := by
            cases ys with
            | nil => simp at hye
            | cons _ _ => simp
          obtain ⟨_, cs, c1, c2, c3, c4, c5⟩ := rep_cells hE hr
          refine fresh l cs a l.length c1 (fun q => ?_) c2 c5 (Nat.le_refl _) (by omega) hmax
          have hcs := c3 q
          rw [hcs] at c1
          have hp : 0 < tsize C.E t' := by rw [← hsz]; exact hpos
          have : l.length = 0 := by
            rcases Nat.eq_zero_or_pos l.length with q | q
            · exact q
            · have := Nat.mul_pos q hp; simp at c1; omega
          exact ⟨List.eq_nil_of_length_eq_zero this, this⟩
        · simp [hmax] at hx
    · simp [D.opt] at hx
  | own id g v hn hg hp hh =>
    simp only at hx
    split at hx
    · rename_i e' t' l g' fz hm
      split at hx
      · rename_i et
        subst et
        split at hx
        · rename_i hge
          obtain ⟨rfl, rfl⟩ := hge
          simp only [D.opt] at hx
          by_cases hmax : l.length + ys.length ≤ maxList
          · simp only [hmax, decide_true, cond_true, Option.some.injEq, Prod.mk.injEq] at hx
            obtain ⟨rfl, rfl⟩ := hx
            obtain ⟨h1, h2, h3⟩ := h.ob id _ hm
            have hin : id < K.n := by rw [h.n]; exact (List.getElem?_eq_some_iff.1 hm).1
            rw [hh h1]
            have hset : ∀ (b : Nat) (hv' : Value) (w' : World), (∀ b o, o < K.σ b → w'.cell? ⟨b, o, none⟩ = w.cell? ⟨b, o, none⟩) → (∀ b o, 0 < K.σ b → w.heap[b]? = some o → keeps o w'.heap[b]?) →
                (∀ k, k < w.heap.size → (K.live id = true → k ≠ K.ι id) → w'.heap[k]? = w.heap[k]?) → w.heap.size ≤ w'.heap.size → ((K.live id = true ∧ b = K.ι id) ∨ w.heap.size ≤ b) → Below B w w' →
                (∃ n c, hv' = .slice (some ⟨b, 0, none⟩) n c) → (Ext K w (K.upd id b hv' (g + 1)) w' → ArrOK C.E (K.upd id b hv' (g + 1)) w' B e t' (l ++ ys) fz hv' b true) →
                ∃ K', Ext K w K' w' ∧ Below B w w' ∧ RelM C K' w' B (m.set id (.arr e t' (l ++ ys) (g + 1) fz)) ∧ RepV C.E K' w' hv' (.own id (g + 1)) := by
              intro b hv' w' q1 q2 q3 q4 q5 q6 q7 q8
              have hx : Ext K w (K.upd id b hv' (g + 1)) w' := by
                refine ⟨Nat.le_refl _, fun j hj => ?_, fun _ => Nat.le_refl _, q1, q2, .inr rfl⟩
                by_cases ej : j = id
                · subst ej
                  simp only [Gh.upd, if_true]
                  exact ⟨by omega, fun q => by omega⟩
                · obtain ⟨a1, a2, a3, a4, _⟩ := K.upd_at id b hv' (g + 1) ej
                  exact ⟨Nat.le_of_eq a3.symm, fun _ => ⟨a1, a2, a4⟩⟩
              refine ⟨K.upd id b hv' (g + 1), hx, q6, ?_, .own id (g + 1) hv' hn (by simp [Gh.upd]) (by obtain ⟨n, c, e⟩ := q7; exact ⟨_, _, _, e⟩) fun _ => by simp [Gh.upd]⟩
              refine h.set hin hx rfl (fun j _ ej => K.upd_at id b hv' (g + 1) ej) (fun _ => .inl rfl) q3 q4 (fun _ => ?_) (fun b' hb' => h.new b' (Nat.le_trans q4 hb')) ?_
              · rcases q5 with ⟨r1, r2⟩ | r
                · left; exact ⟨r1, by simp [Gh.upd, r2]⟩
                · right; simpa [Gh.upd] using r
              · refine ⟨by simp [Gh.upd], by simpa [Gh.upd] using h2, ?_⟩
                have := q8 hx
                simpa [Gh.upd] using this
            -- a new block for it
            have anew : ∀ (cs : List Value) (base : Option Addr) (cap : Nat), cs.length = l.length * tsize C.E t' → (base = none → l = [] ∧ cap = 0) → (∀ b, base = some b → ∀ j v, cs[j]? = some v → w.cell? (b.add j) = some v) →
                (∀ (i : Nat) (x : den S t'), l[i]? = some x → ∀ (j : Nat) (cl : Cell S), (cellsOf C.E t' x)[j]? = some cl → ∃ v, cs[i * tsize C.E t' + j]? = some v ∧ Rep C.E K.σ w v cl.t cl.x) → l.length ≤ cap → cap < l.length + ys.length →
                VRes C K w B ((Builtin.append_ #[t, t] ty #[.slice base l.length cap, .slice ad ys.length cx]).run C.P w) (.own id (g + 1)) (m.set id (.arr e t' (l ++ ys) (g + 1) fz)) := by
              intro cs base cap hcs hb0 hbc hrep hlc hgt
              obtain ⟨cap', hrun, g1, g2⟩ := grow l cs base cap hcs hb0 hbc hlc hgt hmax
              have hrow := grown_row (C := C) hE (l := l) (ys := ys) hzT hcs d1 g1
              have hold : ∀ k, k < w.heap.size → (w.drew.alloc (.cells (cs.toArray ++ ds.toArray ++ Builtin.zeroCells z.cells (cap' - (l.length + ys.length))) e)).heap[k]? = w.heap[k]? := fun k hk => heap_old (w := w.drew) k hk
              obtain ⟨K', k1, k2, k3, k4⟩ := hset w.heap.size (.slice (some ⟨w.heap.size, 0, none⟩) (l ++ ys).length cap') _ (fun b o ho => by
                  rcases Nat.lt_or_ge b w.heap.size with q | q
                  · exact World.cell?_of_block (hold b q)
                  · rw [h.new b q] at ho; omega) (fun b ob h0 he => by
                  rcases Nat.lt_or_ge b w.heap.size with q | q
                  · rw [hold b q]; exact keeps.of he
                  · rw [h.new b q] at h0; omega) (fun k hk _ => hold k hk) (by simp) (.inr (Nat.le_refl _)) (((Below.refl B w).drew).alloc h.base _) ⟨_, _, rfl⟩ (fun hx => by
                  refine .inr ⟨rfl, _, cap', rfl, by simpa using g1, g2, hrow, heap_new (w := w.drew), fun i x hi j cl hj => ?_, ?_, fun _ => ?_, h.base⟩
                  · obtain ⟨v, r1, r2⟩ := app_cells (C := C) (w := w) hcs hrep d5 i x hi j cl hj
                    have hlt := (List.getElem?_eq_some_iff.1 r1).1
                    refine ⟨v, ?_, r2.mono hx.σ hx.cell⟩
                    have he : (cs.toArray ++ ds.toArray ++ Builtin.zeroCells z.cells (cap' - (l.length + ys.length)))[i * tsize C.E t' + j]? = (cs ++ ds)[i * tsize C.E t' + j]? := by
                      rw [Array.getElem?_append_left (by simpa using hlt)]
                      simp
                    rw [he]; exact r1
                  · simp only [Gh.upd]; rw [h.new _ (Nat.le_refl _)]; exact Nat.zero_le _
                  · simp only [Gh.upd]; exact h.new _ (Nat.le_refl _))
              exact ⟨K', _, _, hrun, k1, k2, k3, k4⟩
            rcases h3 with ⟨hl, rfl, a, ha⟩ | ⟨hl, c, cap, p1, p2, p3, p4, p5, p6, p7, p8, p9⟩
            · rw [ha]
              by_cases hy0 : ys.length = 0
              · have : ys = [] := List.eq_nil_of_length_eq_zero hy0
                subst this
                -- nothing turns but the count
                have hx : Ext K w { K with gen := fun i => if i = id then g + 1 else K.gen i } w := by
                  refine ⟨Nat.le_refl _, fun j hj => ?_, fun _ => Nat.le_refl _, fun _ _ _ => rfl, fun _ _ _ q => keeps.of q, .inr rfl⟩
                  by_cases ej : j = id
                  · subst ej; simp only [if_true]; exact ⟨by omega, fun q => by omega⟩
                  · simp only [ej, if_false]; exact ⟨Nat.le_refl _, fun _ => by simp⟩
                refine ⟨_, w, _, run_append_zero w t ty e i hu hi a ad 0 0 cx (Nat.le_refl _), hx, Below.refl B w, ?_, .own id (g + 1) _ hn (by simp) ⟨_, _, _, rfl⟩ fun _ => ha.symm⟩
                refine h.set hin hx rfl (fun j _ ej => ⟨rfl, rfl, by simp [ej], rfl, rfl⟩) (fun _ => .inl rfl) (fun k _ _ => rfl) (Nat.le_refl _) (fun q => .inl ⟨q, rfl⟩) (fun b hb => h.new b hb) ?_
                exact ⟨by simp, h2, .inl ⟨hl, rfl, a, ha⟩⟩
              · have := anew [] a 0 (by simp) (fun _ => by simp) (fun _ _ j v q => by simp at q) (fun i x q => by simp at q) (by simp) (by simp; omega)
                simpa using this
            · rw [p1]
              have hcsl : (c.toList.take (l.length * tsize C.E t')).length = l.length * tsize C.E t' := by
                rw [List.length_take, show c.toList.length = c.size from Array.length_toList, p4]
                exact Nat.min_eq_left (Nat.mul_le_mul_right _ p2)
              have hget : ∀ j, j < l.length * tsize C.E t' → (c.toList.take (l.length * tsize C.E t'))[j]? = c[j]? := by
                intro j hj; rw [List.getElem?_take, if_pos hj, Array.getElem?_toList]
              have hrep : ∀ (i : Nat) (x : den S t'), l[i]? = some x → ∀ (j : Nat) (cl : Cell S), (cellsOf C.E t' x)[j]? = some cl → ∃ v, (c.toList.take (l.length * tsize C.E t'))[i * tsize C.E t' + j]? = some v ∧ Rep C.E K.σ w v cl.t cl.x := by
                intro i x hi j cl hj
                obtain ⟨v, r1, r2⟩ := p6 i x hi j cl hj
                have hil := (List.getElem?_eq_some_iff.1 hi).1
                have hjl : j < tsize C.E t' := by rw [← cellsOf_len hE t' x]; exact (List.getElem?_eq_some_iff.1 hj).1
                have : (i + 1) * tsize C.E t' ≤ l.length * tsize C.E t' := Nat.mul_le_mul_right _ hil
                rw [Nat.succ_mul] at this
                exact ⟨v, by rw [hget _ (by omega)]; exact r1, r2⟩
              by_cases hroom : l.length + ys.length ≤ cap
              · -- in its place
                by_cases hy0 : ys.length = 0
                · have hye : ys = [] := List.eq_nil_of_length_eq_zero hy0
                  subst hye
                  obtain ⟨K', k1, k2, k3, k4⟩ := hset (K.ι id) (.slice (some ⟨K.ι id, 0, none⟩) l.length cap) w (fun _ _ _ => rfl) (fun _ _ _ q => keeps.of q) (fun _ _ _ => rfl) (Nat.le_refl _) (.inl ⟨hl, rfl⟩) (Below.refl B w) ⟨_, _, rfl⟩ (fun hx => by
                    refine .inr ⟨rfl, c, cap, by simp, by simpa using p2, p3, p4, p5, ?_, by simpa [Gh.upd] using p7, by simpa [Gh.upd] using p8, p9⟩
                    simpa [Gh.upd] using p6)
                  exact ⟨K', w, _, run_append_zero w t ty e i hu hi _ ad _ _ cx p2, k1, k2, k3, k4⟩
                · cases ad with
                  | none =>
                    have := d3 rfl
                    subst this
                    simp only [List.length_nil] at d1
                    have hp : 0 < ys.length * tsize C.E t' := Nat.mul_pos (by omega) (by rw [← hsz]; exact hpos)
                    omega
                  | some a =>
                    have hfit : l.length * i.size + ds.length ≤ c.size := by
                      rw [p4, d1, hsz, ← Nat.add_mul]; exact Nat.mul_le_mul_right _ hroom
                    have hrun := run_append_room (P := C.P) w t ty e i hu hi (K.ι id) l.length cap c p5 a ys.length cx ds (by rw [d1, hsz]) (d2 a rfl) d4 hroom hfit
                    rw [hsz] at hrun
                    have hra : (c.toList.take (l.length * tsize C.E t') ++ ds ++ c.toList.drop (l.length * tsize C.E t' + ds.length)).toArray = rowAfter c (l.length * tsize C.E t') ds.toArray := by simp [rowAfter]
                    rw [hra] at hrun
                    have hfit' : l.length * tsize C.E t' + ds.toArray.size ≤ c.size := by rw [← hsz]; simpa using hfit
                    have hcell : ∀ o, o < l.length * tsize C.E t' → (rowAfter c (l.length * tsize C.E t') ds.toArray)[o]? = c[o]? := by
                      intro o ho
                      rw [rowAfter_get _ _ _ hfit', if_neg (by omega)]
                    obtain ⟨K', k1, k2, k3, k4⟩ := hset (K.ι id) (.slice (some ⟨K.ι id, 0, none⟩) (l.length + ys.length) cap) (w.setRow (K.ι id) (rowAfter c (l.length * tsize C.E t') ds.toArray)) (fun b o ho => by
                        by_cases q : b = K.ι id
                        · subst q
                          rw [cell_setRow_same w _ o c _ e (0, 0) p5, hcell o (by omega)]
                          simp [World.cell?, p5]
                        · exact World.cell?_of_block (setRow_other w _ b _ q)) (fun b ob h0 he => by
                        by_cases q : b = K.ι id
                        · subst q; rw [p5] at he; cases he; exact ⟨_, _, _, setRow_heap w _ c _ e _ p5, rowAfter_size _ _ _ hfit'⟩
                        · rw [setRow_other w _ b _ q]; exact keeps.of he) (fun k _ hk => setRow_other w _ k _ (hk hl)) (by rw [size_setRow]; exact Nat.le_refl _) (.inl ⟨hl, rfl⟩) (Below.setRow _ p9) ⟨_, _, rfl⟩ (fun hx => by
                        refine .inr ⟨rfl, rowAfter c (l.length * tsize C.E t') ds.toArray, cap, by simp, by simpa using hroom, p3, by rw [rowAfter_size _ _ _ hfit']; exact p4, setRow_heap w _ c _ e _ p5, fun i' x hi' j cl hj => ?_, ?_, fun q => by simpa [Gh.upd] using p8 q, p9⟩
                        · have hjl : j < tsize C.E t' := by rw [← cellsOf_len hE t' x]; exact (List.getElem?_eq_some_iff.1 hj).1
                          by_cases q : i' < l.length
                          · rw [List.getElem?_append_left q] at hi'
                            obtain ⟨v, r1, r2⟩ := p6 i' x hi' j cl hj
                            have : (i' + 1) * tsize C.E t' ≤ l.length * tsize C.E t' := Nat.mul_le_mul_right _ q
                            rw [Nat.succ_mul] at this
                            exact ⟨v, by rw [hcell _ (by omega)]; exact r1, r2.mono hx.σ hx.cell⟩
                          · rw [List.getElem?_append_right (by omega)] at hi'
                            obtain ⟨v, r1, r2⟩ := d5 _ x hi' j cl hj
                            have hi2 := (List.getElem?_eq_some_iff.1 r1).1
                            have e1 : i' * tsize C.E t' = l.length * tsize C.E t' + (i' - l.length) * tsize C.E t' := by rw [← Nat.add_mul]; congr 1; omega
                            refine ⟨v, ?_, r2.mono hx.σ hx.cell⟩
                            rw [rowAfter_get _ _ _ hfit', if_pos (by simp only [List.size_toArray]; omega)]
                            rw [show i' * tsize C.E t' + j - l.length * tsize C.E t' = (i' - l.length) * tsize C.E t' + j by omega]
                            simpa using r1
                        · simp only [Gh.upd, List.length_append, Nat.add_mul]; omega)
                    exact ⟨K', _, _, hrun, k1, k2, k3, k4⟩
              · exact anew _ (some ⟨K.ι id, 0, none⟩) cap hcsl (fun q => by cases q) (fun b hb j v hj => by
                  cases hb
                  rw [add_lit]
                  have hjl := (List.getElem?_eq_some_iff.1 hj).1
                  rw [hcsl] at hjl
                  rw [hget j hjl] at hj
                  simpa [World.cell?, p5] using hj) hrep p2 (by omega)
          · simp [hmax] at hx
        · simp [D.opt] at hx
      · simp [D.opt] at hx
    · simp [D.opt] at hx
  | cell hr => simp [D.opt] at hx
  | clo => simp [D.opt] at hx
  | agg => simp [D.opt] at hx
  | ptr => simp [D.opt] at hx
  | eptr => simp [D.opt] at hx
  | ro => simp [D.opt] at hx
  | tup => simp [D.opt] at hx
  | cmap => simp [D.opt] at hx
  | ifc => simp [D.opt] at hx
  | mapr => simp [D.opt] at hx
  | undef => simp [D.opt] at hx
end
end Go.Lv
