import Derived.Test.YtolndkmjmlgcpaaDoorA
import Derived.Laws.IdiomCopy
import Derived.MapKept
import Derived.Laws.BytesArg
import Derived.Laws.IdiomStrings
import Derived.Laws.Strings3
namespace Go.Lv
set_option linter.all false
open Go Go.RowKit
variable {S : Nat → Type}
section
variable {C : Ctx S} {K : Gh} {w : World} {B : Nat} {m : Mem S}
theorem below_alloc (h : RelM C K w B m) (o : Obj) : Below B w (w.alloc o) := (Below.refl B w).alloc h.base o
theorem heap_old {o : Obj} (k : Nat) (hk : k < w.heap.size) : (w.alloc o).heap[k]? = w.heap[k]? := Below.heap_alloc w o k hk
theorem heap_new {o : Obj} : (w.alloc o).heap[w.heap.size]? = some o := by show (w.heap.push o)[w.heap.size]? = some o; simp
/-- A new variable. -/
theorem newBox (h : RelM C K w B m) {c : Array Value} {vs : List (V S)} (e : TypeId) (hs : c.size = vs.length)
    (hj : ∀ (j : Nat) (v : Value) (x : V S), c[j]? = some v → vs[j]? = some x → RepV C.E K w v x) :
    ∃ K', Ext K w K' (w.alloc (.cells c e)) ∧ Below B w (w.alloc (.cells c e)) ∧ RelM C K' (w.alloc (.cells c e)) B (m ++ [.box vs false]) ∧
      RepV C.E K' (w.alloc (.cells c e)) (.pointer (some ⟨w.heap.size, 0, none⟩)) (.ptr m.length 0) := by
  have hx : Ext K w (K.push w.heap.size .nilIface 0 true) (w.alloc (.cells c e)) := by
    refine Gh.push_ext _ _ _ _ (fun b o ho => ?_) (fun b ob h0 he => ?_)
    · rcases Nat.lt_or_ge b w.heap.size with q | q
      · exact World.cell?_of_block (heap_old b q)
      · rw [h.new b q] at ho; omega
    · rcases Nat.lt_or_ge b w.heap.size with q | q
      · rw [heap_old b q]; exact keeps.of he
      · rw [h.new b q] at h0; omega
  have ho : ObjOK C.E (K.push w.heap.size .nilIface 0 true) (w.alloc (.cells c e)) B K.n (.box vs false) := by
    refine ⟨by simp [Gh.push], by simp [Gh.push], c, e, by simp only [Gh.push, if_true]; exact heap_new, hs, fun j v x p q => (hj j v x p q).mono hx, fun _ => ?_, fun q => (by cases q)⟩
    simp only [Gh.push, if_true]; exact ⟨h.new _ (Nat.le_refl _), h.base⟩
  obtain ⟨hr, hx'⟩ := h.push (w' := w.alloc (.cells c e)) (by simp) (fun k hk => heap_old k hk) (fun _ => Nat.le_refl _) ho
  refine ⟨_, hx', below_alloc h _, hr, .ptr _ _ _ ?_ ⟨_, rfl⟩ fun _ => ?_⟩
  · simp only [Gh.push, h.n]; omega
  · simp [Gh.push, h.n]
theorem box_res (h : RelM C K w B m) {t : TypeId} {v : Value} {x : V S} (hv : RepV C.E K w v x) (hd : x.defd = true) :
    VRes C K w B ((Instr.box t v).run C.P w) (.ptr m.length 0) (m ++ [.box x.cells false]) := by
  obtain ⟨a, b⟩ := hv.cells hd
  obtain ⟨K', x1, b1, r1, p1⟩ := newBox h t a b
  exact ⟨K', _, _, by simp [Instr.box, newVar, newRow], x1, b1, r1, p1⟩
theorem zero_cells (z : Value) : z.cells.size = (ofConst z : V S).cells.length ∧ ∀ (j : Nat) (c : Value) (x : V S), z.cells[j]? = some c → (ofConst z : V S).cells[j]? = some x → RepV C.E K w c x := by
  have hr := ofConst_rep C.E K w z
  cases hd : (ofConst z : V S).defd with
  | true => exact hr.cells hd
  | false =>
    have one : ∀ {v : Value}, v.cells = #[v] → (ofConst v : V S) = .undef → v.cells.size = (ofConst v : V S).cells.length ∧ ∀ (j : Nat) (c : Value) (x : V S), v.cells[j]? = some c → (ofConst v : V S).cells[j]? = some x → RepV C.E K w c x := by
      intro v h1 h2
      rw [h1, h2]
      refine ⟨rfl, fun j c x hc hx => ?_⟩
      cases j with
      | zero => simp [V.cells] at hx; subst hx; exact .undef _
      | succ j => simp at hc
    unfold ofConst at hd
    split at hd <;> first | (simp [V.defd] at hd; done) | skip
    rename_i h1 h2 h3 h4 h5 h6
    refine one ?_ ?_
    · cases z <;> first | rfl | (exact absurd rfl (h6 _))
    · unfold ofConst
      split <;> first | rfl | simp_all
theorem alloc_res (h : RelM C K w B m) {t : TypeId} {z : Value} (hz : (C.P.info? t).bind (·.zero) = some z) :
    VRes C K w B ((Instr.alloc t true (.tuple #[])).run C.P w) (.ptr m.length 0) (m ++ [.box (ofConst z : V S).cells false]) := by
  obtain ⟨a, b⟩ := zero_cells (C := C) (K := K) (w := w) z
  obtain ⟨K', x1, b1, r1, p1⟩ := newBox h t a b
  cases hi : C.P.info? t with
  | none => rw [hi] at hz; cases hz
  | some i =>
    rw [hi] at hz
    simp only [Option.bind_some] at hz
    exact ⟨K', _, _, by simp [Instr.alloc, zeroValue, typeInfo, hi, hz, newVar, newRow], x1, b1, r1, p1⟩
/-- A new own array. -/
theorem newArr (hE : EnvOK C.E) (h : RelM C K w B m) {w' : World} {e : TypeId} {T : Ty} {l : List (den S T)} {c : Array Value} {cap : Nat} (hcap : l.length ≤ cap) (hmax : cap ≤ maxLen) (hs : c.size = cap * tsize C.E T)
    (hw : w' = w.alloc (.cells c e) ∨ w' = w.drew.alloc (.cells c e))
    (hc : ∀ (i : Nat) (x : den S T), l[i]? = some x → ∀ (j : Nat) (cl : Cell S), (cellsOf C.E T x)[j]? = some cl → ∃ v, c[i * tsize C.E T + j]? = some v ∧ Rep C.E K.σ w v cl.t cl.x) :
    ∃ K', Ext K w K' w' ∧ Below B w w' ∧ RelM C K' w' B (m ++ [.arr e T l 0 false]) ∧ RepV C.E K' w' (.slice (some ⟨w.heap.size, 0, none⟩) l.length cap) (.own m.length 0) := by
  have hold : ∀ k, k < w.heap.size → w'.heap[k]? = w.heap[k]? := by
    intro k hk; rcases hw with rfl | rfl
    · exact heap_old k hk
    · exact heap_old (w := w.drew) k hk
  have hnew : w'.heap[w.heap.size]? = some (.cells c e (0, 0)) := by
    rcases hw with rfl | rfl
    · exact heap_new
    · exact heap_new (w := w.drew)
  have hsz : w'.heap.size = w.heap.size + 1 := by rcases hw with rfl | rfl <;> simp
  have hbel : Below B w w' := by
    rcases hw with rfl | rfl
    · exact below_alloc h _
    · exact ((Below.refl B w).drew).alloc h.base _
  let K' := K.push w.heap.size (.slice (some ⟨w.heap.size, 0, none⟩) l.length cap) (tsize C.E T) true
  have hx : Ext K w K' w' := by
    refine Gh.push_ext _ _ _ _ (fun b o ho => ?_) (fun b ob h0 he => ?_)
    · rcases Nat.lt_or_ge b w.heap.size with q | q
      · exact World.cell?_of_block (hold b q)
      · rw [h.new b q] at ho; omega
    · rcases Nat.lt_or_ge b w.heap.size with q | q
      · rw [hold b q]; exact keeps.of he
      · rw [h.new b q] at h0; omega
  have hσ : K'.σ w.heap.size = 0 := h.new _ (Nat.le_refl _)
  have ho : ObjOK C.E K' w' B K.n (.arr e T l 0 false) := by
    refine ⟨by simp [K', Gh.push], by simp [K', Gh.push], .inr ⟨by simp [K', Gh.push], c, cap, by simp [K', Gh.push], hcap, hmax, hs, by simp [K', Gh.push, hnew], ?_, ?_, ?_, ?_⟩⟩
    · intro i x hi j cl hj
      obtain ⟨v, q1, q2⟩ := hc i x hi j cl hj
      exact ⟨v, q1, q2.mono hx.σ hx.cell⟩
    · simp only [K', Gh.push, if_true] at hσ ⊢; rw [hσ]; exact Nat.zero_le _
    · intro _; simpa [K', Gh.push] using hσ
    · simp only [K', Gh.push, if_true]; exact h.base
  obtain ⟨hr, hx'⟩ := h.push (w' := w') (by omega) hold (fun _ => Nat.le_refl _) ho
  refine ⟨K', hx', hbel, hr, .own _ _ _ ?_ (Nat.zero_le _) ⟨_, _, _, rfl⟩ fun _ => ?_⟩
  · simp only [K', Gh.push, h.n]; omega
  · simp [K', Gh.push, h.n]
/-- An own array of nothing, without memory. -/
theorem newNil (h : RelM C K w B m) (e : TypeId) (T : Ty) (a : Option Addr) : ∃ K', Ext K w K' w ∧ RelM C K' w B (m ++ [.arr e T [] 0 false]) ∧ RepV C.E K' w (.slice a 0 0) (.own m.length 0) := by
  have ho : ObjOK C.E (K.push 0 (.slice a 0 0) (tsize C.E T) false) w B K.n (.arr e T [] 0 false) :=
    ⟨by simp [Gh.push], by simp [Gh.push], .inl ⟨by simp [Gh.push], rfl, a, by simp [Gh.push]⟩⟩
  obtain ⟨hr, hx⟩ := h.push (w' := w) (Nat.le_refl _) (fun _ _ => rfl) (fun q => by cases q) ho
  exact ⟨_, hx, hr, .own _ _ _ (by simp only [Gh.push, h.n]; omega) (Nat.zero_le _) ⟨_, _, _, rfl⟩ fun _ => by simp [Gh.push, h.n]⟩
/-- The cells of a list that is read. -/
theorem rep_cells {σ : Nat → Nat} (hE : EnvOK C.E) {T : Ty} {l : List (den S T)} {ad : Option Addr} {len cap : Nat} (h : Rep C.E σ w (.slice ad len cap) (.slice T) l) :
    len = l.length ∧ ∃ cs : List Value, cs.length = l.length * tsize C.E T ∧ (∀ a, ad = some a → ∀ j v, cs[j]? = some v → w.cell? (a.add j) = some v) ∧ (ad = none → cs = []) ∧ (∀ u ∈ cs, u.oneCell' = true) ∧
      ∀ (i : Nat) (x : den S T), l[i]? = some x → ∀ (j : Nat) (cl : Cell S), (cellsOf C.E T x)[j]? = some cl → ∃ v, cs[i * tsize C.E T + j]? = some v ∧ Rep C.E σ w v cl.t cl.x := by
  cases h with
  | nil => exact ⟨rfl, [], by simp, by simp, by simp, by simp, by simp⟩
  | slice _ _ b off cap vs hcap hst hc hr =>
    refine ⟨rfl, (List.range (l.length * tsize C.E T)).map vs, by simp, ?_, by simp, ?_, ?_⟩
    · intro a ha j v hj
      simp only [Option.some.injEq] at ha
      subst ha
      rw [List.getElem?_map] at hj
      by_cases q : j < l.length * tsize C.E T
      · rw [List.getElem?_range q] at hj
        simp only [Option.map_some, Option.some.injEq] at hj
        subst hj
        rw [add_lit]; exact hc j q
      · rw [List.getElem?_eq_none (by simp; omega)] at hj; cases hj
    · intro u hu
      obtain ⟨k, hk, rfl⟩ := List.mem_map.1 hu
      rw [List.mem_range] at hk
      by_cases hz : tsize C.E T = 0
      · rw [hz] at hk; omega
      · have hi : k / tsize C.E T < l.length := by
          rw [Nat.div_lt_iff_lt_mul (by omega)]; exact hk
        have hj : k % tsize C.E T < (cellsOf C.E T l[k / tsize C.E T]).length := by rw [cellsOf_len hE]; exact Nat.mod_lt _ (by omega)
        have := hr (k / tsize C.E T) _ (List.getElem?_eq_getElem hi) (k % tsize C.E T) _ (List.getElem?_eq_getElem hj)
        rw [Nat.div_add_mod' k] at this
        exact this.one
    · intro i x hi j cl hj
      have hil := (List.getElem?_eq_some_iff.1 hi).1
      have hjl : j < tsize C.E T := by rw [← cellsOf_len hE T x]; exact (List.getElem?_eq_some_iff.1 hj).1
      have hlt : i * tsize C.E T + j < l.length * tsize C.E T := by
        have : (i + 1) * tsize C.E T ≤ l.length * tsize C.E T := Nat.mul_le_mul_right _ hil
        rw [Nat.succ_mul] at this; omega
      refine ⟨vs (i * tsize C.E T + j), by rw [List.getElem?_map, List.getElem?_range hlt]; rfl, hr i x hi j cl hj⟩
theorem app_cells {σ : Nat → Nat} {T : Ty} {l ys : List (den S T)} {cs ds : List Value} (hl : cs.length = l.length * tsize C.E T)
    (h1 : ∀ (i : Nat) (x : den S T), l[i]? = some x → ∀ (j : Nat) (cl : Cell S), (cellsOf C.E T x)[j]? = some cl → ∃ v, cs[i * tsize C.E T + j]? = some v ∧ Rep C.E σ w v cl.t cl.x)
    (h2 : ∀ (i : Nat) (x : den S T), ys[i]? = some x → ∀ (j : Nat) (cl : Cell S), (cellsOf C.E T x)[j]? = some cl → ∃ v, ds[i * tsize C.E T + j]? = some v ∧ Rep C.E σ w v cl.t cl.x) :
    ∀ (i : Nat) (x : den S T), (l ++ ys)[i]? = some x → ∀ (j : Nat) (cl : Cell S), (cellsOf C.E T x)[j]? = some cl → ∃ v, (cs ++ ds)[i * tsize C.E T + j]? = some v ∧ Rep C.E σ w v cl.t cl.x := by
  intro i x hi j cl hj
  by_cases q : i < l.length
  · rw [List.getElem?_append_left q] at hi
    obtain ⟨v, r1, r2⟩ := h1 i x hi j cl hj
    exact ⟨v, by rw [List.getElem?_append_left (List.getElem?_eq_some_iff.1 r1).1]; exact r1, r2⟩
  · rw [List.getElem?_append_right (by omega)] at hi
    obtain ⟨v, r1, r2⟩ := h2 _ x hi j cl hj
    refine ⟨v, ?_, r2⟩
    have : i * tsize C.E T = l.length * tsize C.E T + (i - l.length) * tsize C.E T := by rw [← Nat.add_mul]; congr 1; omega
    rw [List.getElem?_append_right (by omega), hl]
    rw [show i * tsize C.E T + j - l.length * tsize C.E T = (i - l.length) * tsize C.E T + j by omega]
    exact r1
end
end Go.Lv
namespace Go.Lv
set_option linter.all false
open Go Go.RowKit
variable {S : Nat → Type}
section
variable {C : Ctx S} {K : Gh} {w : World} {B : Nat} {m : Mem S}
/-- The cells of what is read as a list. -/
theorem list_cells (hE : EnvOK C.E) (h : RelM C K w B m) {T : Ty} {v : Value} {x : V S} {l : List (den S T)} (hv : RepV C.E K w v x) (hd : listOf m T x = some l) :
    ∃ ad cap, v = .slice ad l.length cap ∧ ∃ cs : List Value, cs.length = l.length * tsize C.E T ∧ (∀ a, ad = some a → ∀ j v, cs[j]? = some v → w.cell? (a.add j) = some v) ∧ (ad = none → cs = []) ∧ (∀ u ∈ cs, u.oneCell' = true) ∧
      ∀ (i : Nat) (x : den S T), l[i]? = some x → ∀ (j : Nat) (cl : Cell S), (cellsOf C.E T x)[j]? = some cl → ∃ v, cs[i * tsize C.E T + j]? = some v ∧ Rep C.E K.σ w v cl.t cl.x := by
  obtain ⟨K1, x1, s1, r1, f1⟩ := freeze h x.owns
  have hd1 : decLeaf (mark m x.owns) (.slice T) x = some l := by rw [decLeaf_like (mark_like m _)]; exact hd
  have hr : Rep C.E K1.σ w v (.slice T) l := decLeaf_rep r1 (hv.mono x1) hd1 (fun id g e => by subst e; exact f1)
  obtain ⟨ad, cap, ev, _⟩ := rep_slice hr
  rw [ev] at hr
  obtain ⟨_, cs, c1, c2, c3, c4, c5⟩ := rep_cells hE hr
  refine ⟨ad, cap, ev, cs, c1, c2, c3, c4, ?_⟩
  -- at the ghost as it was
  cases hv with
  | @cell _ t' x' hx =>
    simp only [listOf, decLeaf] at hd
    split at hd
    · rename_i e
      subst e
      cases hd
      rw [ev] at hx
      obtain ⟨_, ds, d1, d2, d3, d4, d5⟩ := rep_cells hE hx
      intro i x hi j cl hj
      obtain ⟨u, u1, u2⟩ := d5 i x hi j cl hj
      obtain ⟨u', u1', u2'⟩ := c5 i x hi j cl hj
      refine ⟨u', u1', ?_⟩
      cases ad with
      | none => rw [c3 rfl] at u1'; simp at u1'
      | some a =>
        have e1 := c2 a rfl _ _ u1'
        have e2 := d2 a rfl _ _ u1
        rw [e1] at e2
        cases e2
        exact u2
    · cases hd
  | @full a t' l' hx =>
    simp only [listOf, decLeaf] at hd
    split at hd
    · rename_i e
      simp only [Ty.slice.injEq] at e
      subst e
      cases hd
      rw [ev] at hx
      obtain ⟨_, ds, d1, d2, d3, d4, d5⟩ := rep_cells hE hx
      intro i x hi j cl hj
      obtain ⟨u, u1, u2⟩ := d5 i x hi j cl hj
      obtain ⟨u', u1', u2'⟩ := c5 i x hi j cl hj
      refine ⟨u', u1', ?_⟩
      cases ad with
      | none => rw [c3 rfl] at u1'; simp at u1'
      | some a =>
        have e1 := c2 a rfl _ _ u1'
        have e2 := d2 a rfl _ _ u1
        rw [e1] at e2
        cases e2
        exact u2
    · cases hd
  | nilS a =>
    simp only [listOf, decLeaf] at hd
    cases hd
    intro i x hi; simp at hi
  | own id g v hn hg hp hh =>
    simp only [listOf, decLeaf] at hd
    split at hd
    · rename_i e t' l' g' fz hm
      split at hd
      · rename_i eg
        subst eg
        split at hd
        · rename_i et
          simp only [Ty.slice.injEq] at et
          subst et
          cases hd
          intro i x hi j cl hj
          obtain ⟨q1, q2, q3, c, cp, q4, q5, q6, q7, q8, q9, q10, q11, q12⟩ := arr_cells hE h hm hi
          obtain ⟨u, u1, u2⟩ := q12 i x hi j cl hj
          obtain ⟨u', u1', u2'⟩ := c5 i x hi j cl hj
          refine ⟨u', u1', ?_⟩
          have hv' := hh q1
          rw [q4, ev] at hv'
          simp only [Value.slice.injEq] at hv'
          have e1 := c2 _ hv'.1 _ _ u1'
          rw [add_lit] at e1
          have hlt := (Array.getElem?_eq_some_iff.1 u1).1
          simp only [World.cell?, q5, Nat.zero_add, Option.isSome_none, Bool.false_eq_true, if_false] at e1
          rw [u1] at e1
          cases e1
          exact u2
        · cases hd
      · cases hd
    · cases hd
  | clo f a b a' b' h1 h2 hf' hc =>
    cases a' <;> cases b' <;> simp [listOf, decLeaf] at hd
  | agg => simp [listOf, decLeaf] at hd
  | ptr => simp [listOf, decLeaf] at hd
  | eptr => simp [listOf, decLeaf] at hd
  | ro => simp [listOf, decLeaf] at hd
  | tup => simp [listOf, decLeaf] at hd
  | cmap => simp [listOf, decLeaf] at hd
  | ifc => simp [listOf, decLeaf] at hd
  | mapr => simp [listOf, decLeaf] at hd
  | undef => simp [listOf, decLeaf] at hd
  | known => simp [listOf, decLeaf] at hd
  | yld => simp [listOf, decLeaf] at hd
theorem run_append_zero {P : Program} (w : World) (t ty e : TypeId) (i : TypeInfo) (ht : P.underlying t = some (.slice e)) (hi : P.info? e = some i) (base ad : Option Addr) (n cap c : Nat) (h : n ≤ cap) :
    (Builtin.append_ #[t, t] ty #[.slice base n cap, .slice ad 0 c]).run P w = .ok (.slice base n cap) w := by
  cases base <;> cases ad <;> simp [Builtin.append_, run_underlying ht, sizeOf, typeInfo, hi, Builtin.lenOf, Builtin.firstCells, loadCells, loadCellsFrom, storeCells, h]
/-- The row that grows: what a new block holds. -/
theorem grown_row (hE : EnvOK C.E) {T : Ty} {l ys : List (den S T)} {cs ds : List Value} {z : Value} {cap : Nat} (hz : z.cells.size = tsize C.E T) (hl : cs.length = l.length * tsize C.E T) (hy : ds.length = ys.length * tsize C.E T) (hcap : l.length + ys.length ≤ cap) :
    (cs.toArray ++ ds.toArray ++ Builtin.zeroCells z.cells (cap - (l.length + ys.length))).size = cap * tsize C.E T := by
  simp only [Array.size_append, List.size_toArray, size_zeroCells, hz, hl, hy, ← Nat.add_mul]
  congr 1; omega
def Gh.upd (K : Gh) (id b : Nat) (hv : Value) (g : Nat) : Gh :=
  { K with ι := fun i => if i = id then b else K.ι i, hv := fun i => if i = id then hv else K.hv i, gen := fun i => if i = id then g else K.gen i, live := fun i => if i = id then true else K.live i }
theorem Gh.upd_at (K : Gh) (id b : Nat) (hv : Value) (g : Nat) {i : Nat} (h : i ≠ id) : K.at (K.upd id b hv g) i := by simp [Gh.at, Gh.upd, h]
theorem append_res (hE : EnvOK C.E) (hT : TyOK C) (h : RelM C K w B m) {t ty e : TypeId} {T : Ty} (hu : C.P.underlying t = some (.slice e)) (hty : C.ty e = some T) {vs vx : Value} {s x y : V S} {m' : Mem S}
    (hvs : RepV C.E K w vs s) (hvx : RepV C.E K w vx x) (hx : (semAppend m e T s x).opt = some (y, m')) :
    VRes C K w B ((Builtin.append_ #[t, t] ty #[vs, vx]).run C.P w) y m' := by
  obtain ⟨i, z, hi, hsz, hz, hzs, hpos, hby⟩ := hT e T hty
  unfold semAppend at hx
  obtain ⟨ys, hys, hx⟩ := opt_ofOpt_bind hx
  obtain ⟨ad, cx, rfl, ds, d1, d2, d3, d4, d5⟩ := list_cells hE h hvx hys
  have hzT : z.cells.size = tsize C.E T := by rw [hzs, hsz]
  -- growing into a new block
  have grow : ∀ (l : List (den S T)) (cs : List Value) (base : Option Addr) (cap : Nat), cs.length = l.length * tsize C.E T → (base = none → l = [] ∧ cap = 0) → (∀ b, base = some b → ∀ j v, cs[j]? = some v → w.cell? (b.add j) = some v) →
      l.length ≤ cap → cap < l.length + ys.length → l.length + ys.length ≤ maxList →
      ∃ cap', (Builtin.append_ #[t, t] ty #[.slice base l.length cap, .slice ad ys.length cx]).run C.P w =
          .ok (.slice (some ⟨w.heap.size, 0, none⟩) (l ++ ys).length cap') (w.drew.alloc (.cells (cs.toArray ++ ds.toArray ++ Builtin.zeroCells z.cells (cap' - (l.length + ys.length))) e)) ∧ l.length + ys.length ≤ cap' ∧ cap' ≤ maxLen := by
    intro l cs base cap hcs hb0 hbc hlc hgt hmax
    have hm : l.length + ys.length ≤ maxLen := by simp only [maxList] at hmax; simp only [maxLen]; omega
    have hbytes : (l.length + ys.length) * i.bytes ≤ 140737488355328 := by
      simp only [maxList] at hmax
      calc (l.length + ys.length) * i.bytes ≤ 137438953472 * 1024 := Nat.mul_le_mul hmax hby
        _ = 140737488355328 := by decide
    have h63 : ((l.length + ys.length : Nat) : Int) ≤ 9223372036854775807 := by simp only [maxList] at hmax; omega
    refine ⟨grownCap w (l.length + ys.length) cap e, ?_, grownCap_ge _ _ _ _, grownCap_le_maxLen _ _ _ _ hm⟩
    have hd1' : ds.length = ys.length * i.size := by rw [d1, hsz]
    by_cases hy0 : ys.length = 0
    · omega
    · cases ad with
      | none =>
        have := d3 rfl
        subst this
        simp only [List.length_nil] at hd1'
        have hp : 0 < ys.length * i.size := Nat.mul_pos (by omega) hpos
        omega
      | some a =>
        cases base with
        | none =>
          obtain ⟨rfl, rfl⟩ := hb0 rfl
          have hcs0 : cs = [] := List.eq_nil_of_length_eq_zero (by rw [hcs]; simp)
          subst hcs0
          have := run_append_nil (P := C.P) w t ty e i z hu hi hz a ys.length cx ds hd1' (d2 a rfl) (by omega) (by simpa using h63) (by simp only [List.length_nil, Nat.zero_add] at hbytes; omega)
          simpa using this
        | some b =>
          have := run_append_grow (P := C.P) w t ty e i z hu hi hz b l.length cap cs (by rw [hcs, hsz]) (hbc b rfl) a ys.length cx ds hd1' (d2 a rfl) hgt h63 (growslice_fits hgt hbytes)
          rw [this]; simp
  -- a new own array out of it
  have fresh : ∀ (l : List (den S T)) (cs : List Value) (base : Option Addr) (cap : Nat), cs.length = l.length * tsize C.E T → (base = none → l = [] ∧ cap = 0) → (∀ b, base = some b → ∀ j v, cs[j]? = some v → w.cell? (b.add j) = some v) →
      (∀ (i : Nat) (x : den S T), l[i]? = some x → ∀ (j : Nat) (cl : Cell S), (cellsOf C.E T x)[j]? = some cl → ∃ v, cs[i * tsize C.E T + j]? = some v ∧ Rep C.E K.σ w v cl.t cl.x) →
      l.length ≤ cap → cap < l.length + ys.length → l.length + ys.length ≤ maxList →
      VRes C K w B ((Builtin.append_ #[t, t] ty #[.slice base l.length cap, .slice ad ys.length cx]).run C.P w) (.own m.length 0) (m ++ [.arr e T (l ++ ys) 0 false]) := by
    intro l cs base cap hcs hb0 hbc hrep hlc hgt hmax
    obtain ⟨cap', hrun, g1, g2⟩ := grow l cs base cap hcs hb0 hbc hlc hgt hmax
    have hrow := grown_row (C := C) hE (l := l) (ys := ys) hzT hcs d1 g1
    obtain ⟨K', k1, k2, k3, k4⟩ := newArr hE h (e := e) (T := T) (l := l ++ ys) (cap := cap') (by simpa using g1) g2 hrow (.inr rfl) (fun i x hi j cl hj => by
      obtain ⟨v, r1, r2⟩ := app_cells (C := C) (w := w) hcs hrep d5 i x hi j cl hj
      refine ⟨v, ?_, r2⟩
      have hlt := (List.getElem?_eq_some_iff.1 r1).1
      have he : (cs.toArray ++ ds.toArray ++ Builtin.zeroCells z.cells (cap' - (l.length + ys.length)))[i * tsize C.E T + j]? = (cs ++ ds)[i * tsize C.E T + j]? := by
        rw [Array.getElem?_append_left (by simpa using hlt)]
        simp
      rw [he]; exact r1)
    exact ⟨K', _, _, hrun, k1, k2, k3, k4⟩
  have lens : ∀ {n : Nat}, (decide (n ≤ maxList)) = true → n ≤ maxList := fun h => by simpa using h
  cases hvs with
  | nilS a =>
    simp only [D.opt] at hx
    by_cases hmax : ys.length ≤ maxList
    · simp only [hmax, decide_true, cond_true, Option.some.injEq, Prod.mk.injEq] at hx
      obtain ⟨rfl, rfl⟩ := hx
      by_cases hy0 : ys.length = 0
      · have : ys = [] := List.eq_nil_of_length_eq_zero hy0
        subst this
        obtain ⟨K', k1, k2, k3⟩ := newNil (C := C) h e T a
        exact ⟨K', w, _, run_append_zero w t ty e i hu hi a ad 0 0 cx (Nat.le_refl _), k1, Below.refl B w, k2, k3⟩
      · have := fresh [] [] a 0 (by simp) (fun _ => ⟨rfl, rfl⟩) (fun _ _ j v q => by simp at q) (fun i x q => by simp at q) (by simp) (by simp; omega) (by simpa using hmax)
        simpa using this
    · simp [hmax] at hx
  | @full a t' l hr =>
    simp only at hx
    split at hx
    · rename_i et
      subst et
      simp only [D.opt] at hx
      cases hye : ys.isEmpty with
      | true =>
        rw [hye] at hx
        simp only [cond_true, Option.some.injEq, Prod.mk.injEq] at hx
        obtain ⟨rfl, rfl⟩ := hx
        have : ys = [] := by simpa using hye
        subst this
        exact VRes.pur h (run_append_zero w t ty e i hu hi a ad _ _ cx (Nat.le_refl _)) (.full hr)
      | false =>
        rw [hye] at hx
        simp only [cond_false] at hx
        by_cases hmax : l.length + ys.length ≤ maxList
        · simp only [hmax, decide_true, cond_true, Option.some.injEq, Prod.mk.injEq] at hx
          obtain ⟨rfl, rfl⟩ := hx
          have hpos' : 0 < ys.length := by
            cases ys with
            | nil => simp at hye
            | cons _ _ => simp
          obtain ⟨_, cs, c1, c2, c3, c4, c5⟩ := rep_cells hE hr
          refine fresh l cs a l.length c1 (fun q => ?_) c2 c5 (Nat.le_refl _) (by omega) hmax
          have hcs := c3 q
          rw [hcs] at c1
          have hp : 0 < tsize C.E t' := by rw [← hsz]; exact hpos
          have : l.length = 0 := by
            rcases Nat.eq_zero_or_pos l.length with q | q
            · exact q
            · have := Nat.mul_pos q hp; simp at c1; omega
          exact ⟨List.eq_nil_of_length_eq_zero this, this⟩
        · simp [hmax] at hx
    · simp [D.opt] at hx
  | own id g v hn hg hp hh =>
    simp only at hx
    split at hx
    · rename_i e' t' l g' fz hm
      split at hx
      · rename_i et
        subst et
        split at hx
        · rename_i hge
          obtain ⟨rfl, rfl⟩ := hge
          simp only [D.opt] at hx
          by_cases hmax : l.length + ys.length ≤ maxList
          · simp only [hmax, decide_true, cond_true, Option.some.injEq, Prod.mk.injEq] at hx
            obtain ⟨rfl, rfl⟩ := hx
            obtain ⟨h1, h2, h3⟩ := h.ob id _ hm
            have hin : id < K.n := by rw [h.n]; exact (List.getElem?_eq_some_iff.1 hm).1
            rw [hh h1]
            have hset : ∀ (b : Nat) (hv' : Value) (w' : World), (∀ b o, o < K.σ b → w'.cell? ⟨b, o, none⟩ = w.cell? ⟨b, o, none⟩) → (∀ b o, 0 < K.σ b → w.heap[b]? = some o → keeps o w'.heap[b]?) →
                (∀ k, k < w.heap.size → (K.live id = true → k ≠ K.ι id) → w'.heap[k]? = w.heap[k]?) → w.heap.size ≤ w'.heap.size → ((K.live id = true ∧ b = K.ι id) ∨ w.heap.size ≤ b) → Below B w w' →
                (∃ n c, hv' = .slice (some ⟨b, 0, none⟩) n c) → (Ext K w (K.upd id b hv' (g + 1)) w' → ArrOK C.E (K.upd id b hv' (g + 1)) w' B e t' (l ++ ys) fz hv' b true) →
                ∃ K', Ext K w K' w' ∧ Below B w w' ∧ RelM C K' w' B (m.set id (.arr e t' (l ++ ys) (g + 1) fz)) ∧ RepV C.E K' w' hv' (.own id (g + 1)) := by
              intro b hv' w' q1 q2 q3 q4 q5 q6 q7 q8
              have hx : Ext K w (K.upd id b hv' (g + 1)) w' := by
                refine ⟨Nat.le_refl _, fun j hj => ?_, fun _ => Nat.le_refl _, q1, q2, .inr rfl⟩
                by_cases ej : j = id
                · subst ej
                  simp only [Gh.upd, if_true]
                  exact ⟨by omega, fun q => by omega⟩
                · obtain ⟨a1, a2, a3, a4, _⟩ := K.upd_at id b hv' (g + 1) ej
                  exact ⟨Nat.le_of_eq a3.symm, fun _ => ⟨a1, a2, a4⟩⟩
              refine ⟨K.upd id b hv' (g + 1), hx, q6, ?_, .own id (g + 1) hv' hn (by simp [Gh.upd]) (by obtain ⟨n, c, e⟩ := q7; exact ⟨_, _, _, e⟩) fun _ => by simp [Gh.upd]⟩
              refine h.set hin hx rfl (fun j _ ej => K.upd_at id b hv' (g + 1) ej) (fun _ => .inl rfl) q3 q4 (fun _ => ?_) (fun b' hb' => h.new b' (Nat.le_trans q4 hb')) ?_
              · rcases q5 with ⟨r1, r2⟩ | r
                · left; exact ⟨r1, by simp [Gh.upd, r2]⟩
                · right; simpa [Gh.upd] using r
              · refine ⟨by simp [Gh.upd], by simpa [Gh.upd] using h2, ?_⟩
                have := q8 hx
                simpa [Gh.upd] using this
            -- a new block for it
            have anew : ∀ (cs : List Value) (base : Option Addr) (cap : Nat), cs.length = l.length * tsize C.E t' → (base = none → l = [] ∧ cap = 0) → (∀ b, base = some b → ∀ j v, cs[j]? = some v → w.cell? (b.add j) = some v) →
                (∀ (i : Nat) (x : den S t'), l[i]? = some x → ∀ (j : Nat) (cl : Cell S), (cellsOf C.E t' x)[j]? = some cl → ∃ v, cs[i * tsize C.E t' + j]? = some v ∧ Rep C.E K.σ w v cl.t cl.x) → l.length ≤ cap → cap < l.length + ys.length →
                VRes C K w B ((Builtin.append_ #[t, t] ty #[.slice base l.length cap, .slice ad ys.length cx]).run C.P w) (.own id (g + 1)) (m.set id (.arr e t' (l ++ ys) (g + 1) fz)) := by
              intro cs base cap hcs hb0 hbc hrep hlc hgt
              obtain ⟨cap', hrun, g1, g2⟩ := grow l cs base cap hcs hb0 hbc hlc hgt hmax
              have hrow := grown_row (C := C) hE (l := l) (ys := ys) hzT hcs d1 g1
              have hold : ∀ k, k < w.heap.size → (w.drew.alloc (.cells (cs.toArray ++ ds.toArray ++ Builtin.zeroCells z.cells (cap' - (l.length + ys.length))) e)).heap[k]? = w.heap[k]? := fun k hk => heap_old (w := w.drew) k hk
              obtain ⟨K', k1, k2, k3, k4⟩ := hset w.heap.size (.slice (some ⟨w.heap.size, 0, none⟩) (l ++ ys).length cap') _ (fun b o ho => by
                  rcases Nat.lt_or_ge b w.heap.size with q | q
                  · exact World.cell?_of_block (hold b q)
                  · rw [h.new b q] at ho; omega) (fun b ob h0 he => by
                  rcases Nat.lt_or_ge b w.heap.size with q | q
                  · rw [hold b q]; exact keeps.of he
                  · rw [h.new b q] at h0; omega) (fun k hk _ => hold k hk) (by simp) (.inr (Nat.le_refl _)) (((Below.refl B w).drew).alloc h.base _) ⟨_, _, rfl⟩ (fun hx => by
                  refine .inr ⟨rfl, _, cap', rfl, by simpa using g1, g2, hrow, heap_new (w := w.drew), fun i x hi j cl hj => ?_, ?_, fun _ => ?_, h.base⟩
                  · obtain ⟨v, r1, r2⟩ := app_cells (C := C) (w := w) hcs hrep d5 i x hi j cl hj
                    have hlt := (List.getElem?_eq_some_iff.1 r1).1
                    refine ⟨v, ?_, r2.mono hx.σ hx.cell⟩
                    have he : (cs.toArray ++ ds.toArray ++ Builtin.zeroCells z.cells (cap' - (l.length + ys.length)))[i * tsize C.E t' + j]? = (cs ++ ds)[i * tsize C.E t' + j]? := by
                      rw [Array.getElem?_append_left (by simpa using hlt)]
                      simp
                    rw [he]; exact r1
                  · simp only [Gh.upd]; rw [h.new _ (Nat.le_refl _)]; exact Nat.zero_le _
                  · simp only [Gh.upd]; exact h.new _ (Nat.le_refl _))
              exact ⟨K', _, _, hrun, k1, k2, k3, k4⟩
            rcases h3 with ⟨hl, rfl, a, ha⟩ | ⟨hl, c, cap, p1, p2, p3, p4, p5, p6, p7, p8, p9⟩
            · rw [ha]
              by_cases hy0 : ys.length = 0
              · have : ys = [] := List.eq_nil_of_length_eq_zero hy0
                subst this
                -- nothing turns but the count
                have hx : Ext K w { K with gen := fun i => if i = id then g + 1 else K.gen i } w := by
                  refine ⟨Nat.le_refl _, fun j hj => ?_, fun _ => Nat.le_refl _, fun _ _ _ => rfl, fun _ _ _ q => keeps.of q, .inr rfl⟩
                  by_cases ej : j = id
                  · subst ej; simp only [if_true]; exact ⟨by omega, fun q => by omega⟩
                  · simp only [ej, if_false]; exact ⟨Nat.le_refl _, fun _ => by simp⟩
                refine ⟨_, w, _, run_append_zero w t ty e i hu hi a ad 0 0 cx (Nat.le_refl _), hx, Below.refl B w, ?_, .own id (g + 1) _ hn (by simp) ⟨_, _, _, rfl⟩ fun _ => ha.symm⟩
                refine h.set hin hx rfl (fun j _ ej => ⟨rfl, rfl, by simp [ej], rfl, rfl⟩) (fun _ => .inl rfl) (fun k _ _ => rfl) (Nat.le_refl _) (fun q => .inl ⟨q, rfl⟩) (fun b hb => h.new b hb) ?_
                exact ⟨by simp, h2, .inl ⟨hl, rfl, a, ha⟩⟩
              · have := anew [] a 0 (by simp) (fun _ => by simp) (fun _ _ j v q => by simp at q) (fun i x q => by simp at q) (by simp) (by simp; omega)
                simpa using this
            · rw [p1]
              have hcsl : (c.toList.take (l.length * tsize C.E t')).length = l.length * tsize C.E t' := by
                rw [List.length_take, show c.toList.length = c.size from Array.length_toList, p4]
                exact Nat.min_eq_left (Nat.mul_le_mul_right _ p2)
              have hget : ∀ j, j < l.length * tsize C.E t' → (c.toList.take (l.length * tsize C.E t'))[j]? = c[j]? := by
                intro j hj; rw [List.getElem?_take, if_pos hj, Array.getElem?_toList]
              have hrep : ∀ (i : Nat) (x : den S t'), l[i]? = some x → ∀ (j : Nat) (cl : Cell S), (cellsOf C.E t' x)[j]? = some cl → ∃ v, (c.toList.take (l.length * tsize C.E t'))[i * tsize C.E t' + j]? = some v ∧ Rep C.E K.σ w v cl.t cl.x := by
                intro i x hi j cl hj
                obtain ⟨v, r1, r2⟩ := p6 i x hi j cl hj
                have hil := (List.getElem?_eq_some_iff.1 hi).1
                have hjl : j < tsize C.E t' := by rw [← cellsOf_len hE t' x]; exact (List.getElem?_eq_some_iff.1 hj).1
                have : (i + 1) * tsize C.E t' ≤ l.length * tsize C.E t' := Nat.mul_le_mul_right _ hil
                rw [Nat.succ_mul] at this
                exact ⟨v, by rw [hget _ (by omega)]; exact r1, r2⟩
              by_cases hroom : l.length + ys.length ≤ cap
              · -- in its place
                by_cases hy0 : ys.length = 0
                · have hye : ys = [] := List.eq_nil_of_length_eq_zero hy0
                  subst hye
                  obtain ⟨K', k1, k2, k3, k4⟩ := hset (K.ι id) (.slice (some ⟨K.ι id, 0, none⟩) l.length cap) w (fun _ _ _ => rfl) (fun _ _ _ q => keeps.of q) (fun _ _ _ => rfl) (Nat.le_refl _) (.inl ⟨hl, rfl⟩) (Below.refl B w) ⟨_, _, rfl⟩ (fun hx => by
                    refine .inr ⟨rfl, c, cap, by simp, by simpa using p2, p3, p4, p5, ?_, by simpa [Gh.upd] using p7, by simpa [Gh.upd] using p8, p9⟩
                    simpa [Gh.upd] using p6)
                  exact ⟨K', w, _, run_append_zero w t ty e i hu hi _ ad _ _ cx p2, k1, k2, k3, k4⟩
                · cases ad with
                  | none =>
                    have := d3 rfl
                    subst this
                    simp only [List.length_nil] at d1
                    have hp : 0 < ys.length * tsize C.E t' := Nat.mul_pos (by omega) (by rw [← hsz]; exact hpos)
                    omega
                  | some a =>
                    have hfit : l.length * i.size + ds.length ≤ c.size := by
                      rw [p4, d1, hsz, ← Nat.add_mul]; exact Nat.mul_le_mul_right _ hroom
                    have hrun := run_append_room (P := C.P) w t ty e i hu hi (K.ι id) l.length cap c p5 a ys.length cx ds (by rw [d1, hsz]) (d2 a rfl) d4 hroom hfit
                    rw [hsz] at hrun
                    have hra : (c.toList.take (l.length * tsize C.E t') ++ ds ++ c.toList.drop (l.length * tsize C.E t' + ds.length)).toArray = rowAfter c (l.length * tsize C.E t') ds.toArray := by simp [rowAfter]
                    rw [hra] at hrun
                    have hfit' : l.length * tsize C.E t' + ds.toArray.size ≤ c.size := by rw [← hsz]; simpa using hfit
                    have hcell : ∀ o, o < l.length * tsize C.E t' → (rowAfter c (l.length * tsize C.E t') ds.toArray)[o]? = c[o]? := by
                      intro o ho
                      rw [rowAfter_get _ _ _ hfit', if_neg (by omega)]
                    obtain ⟨K', k1, k2, k3, k4⟩ := hset (K.ι id) (.slice (some ⟨K.ι id, 0, none⟩) (l.length + ys.length) cap) (w.setRow (K.ι id) (rowAfter c (l.length * tsize C.E t') ds.toArray)) (fun b o ho => by
                        by_cases q : b = K.ι id
                        · subst q
                          rw [cell_setRow_same w _ o c _ e (0, 0) p5, hcell o (by omega)]
                          simp [World.cell?, p5]
                        · exact World.cell?_of_block (setRow_other w _ b _ q)) (fun b ob h0 he => by
                        by_cases q : b = K.ι id
                        · subst q; rw [p5] at he; cases he; exact ⟨_, _, _, setRow_heap w _ c _ e _ p5, rowAfter_size _ _ _ hfit'⟩
                        · rw [setRow_other w _ b _ q]; exact keeps.of he) (fun k _ hk => setRow_other w _ k _ (hk hl)) (by rw [size_setRow]; exact Nat.le_refl _) (.inl ⟨hl, rfl⟩) (Below.setRow _ p9) ⟨_, _, rfl⟩ (fun hx => by
                        refine .inr ⟨rfl, rowAfter c (l.length * tsize C.E t') ds.toArray, cap, by simp, by simpa using hroom, p3, by rw [rowAfter_size _ _ _ hfit']; exact p4, setRow_heap w _ c _ e _ p5, fun i' x hi' j cl hj => ?_, ?_, fun q => by simpa [Gh.upd] using p8 q, p9⟩
                        · have hjl : j < tsize C.E t' := by rw [← cellsOf_len hE t' x]; exact (List.getElem?_eq_some_iff.1 hj).1
                          by_cases q : i' < l.length
                          · rw [List.getElem?_append_left q] at hi'
                            obtain ⟨v, r1, r2⟩ := p6 i' x hi' j cl hj
                            have : (i' + 1) * tsize C.E t' ≤ l.length * tsize C.E t' := Nat.mul_le_mul_right _ q
                            rw [Nat.succ_mul] at this
                            exact ⟨v, by rw [hcell _ (by omega)]; exact r1, r2.mono hx.σ hx.cell⟩
                          · rw [List.getElem?_append_right (by omega)] at hi'
                            obtain ⟨v, r1, r2⟩ := d5 _ x hi' j cl hj
                            have hi2 := (List.getElem?_eq_some_iff.1 r1).1
                            have e1 : i' * tsize C.E t' = l.length * tsize C.E t' + (i' - l.length) * tsize C.E t' := by rw [← Nat.add_mul]; congr 1; omega
                            refine ⟨v, ?_, r2.mono hx.σ hx.cell⟩
                            rw [rowAfter_get _ _ _ hfit', if_pos (by simp only [List.size_toArray]; omega)]
                            rw [show i' * tsize C.E t' + j - l.length * tsize C.E t' = (i' - l.length) * tsize C.E t' + j by omega]
                            simpa using r1
                        · simp only [Gh.upd, List.length_append, Nat.add_mul]; omega)
                    exact ⟨K', _, _, hrun, k1, k2, k3, k4⟩
              · exact anew _ (some ⟨K.ι id, 0, none⟩) cap hcsl (fun q => by cases q) (fun b hb j v hj => by
                  cases hb
                  rw [add_lit]
                  have hjl := (List.getElem?_eq_some_iff.1 hj).1
                  rw [hcsl] at hjl
                  rw [hget j hjl] at hj
                  simpa [World.cell?, p5] using hj) hrep p2 (by omega)
          · simp [hmax] at hx
        · simp [D.opt] at hx
      · simp [D.opt] at hx
    · simp [D.opt] at hx
  | cell hr => simp [D.opt] at hx
  | clo => simp [D.opt] at hx
  | agg => simp [D.opt] at hx
  | ptr => simp [D.opt] at hx
  | eptr => simp [D.opt] at hx
  | ro => simp [D.opt] at hx
  | tup => simp [D.opt] at hx
  | cmap => simp [D.opt] at hx
  | ifc => simp [D.opt] at hx
  | mapr => simp [D.opt] at hx
  | undef => simp [D.opt] at hx
  | known => simp [D.opt] at hx
  | yld => simp [D.opt] at hx
end
end Go.Lv
namespace Go.Lv
set_option linter.all false
open Go Go.RowKit
variable {S : Nat → Type}
section
variable {C : Ctx S} {K : Gh} {w : World} {B : Nat} {m : Mem S}
theorem unary_res (h : RelM C K w B m) {op : UnOp} {v : Value} {x y : V S} (hv : RepV C.E K w v x) (hx : (unD op x).opt = some y) : VRes C K w B ((Op.unary op v).run C.P w) y m := by
  unfold unD at hx
  split at hx
  · rename_i b
    simp only [D.opt, Option.some.injEq] at hx
    subst hx
    rw [bool_of hv]
    exact VRes.pur h (by simp [Op.unary]) (.cell (.bool _))
  · rename_i k n
    simp only [D.opt, Option.some.injEq] at hx
    subst hx
    rw [int_of hv]
    exact VRes.pur h (by simp only [Op.unary, Op.intArith, Sem.run_pure]; rfl) (.cell (.int _ _))
  · simp [D.opt] at hx
theorem convert_res (h : RelM C K w B m) {src dst : TypeId} {k k' : IntKind} {n : Int} {v : Value} (hs : (C.P.underlying src).isSome = true) (hd : C.P.underlying dst = some (.int k)) (hv : RepV C.E K w v (.cell (.int k') n)) :
    VRes C K w B ((convert src dst v).run C.P w) (wr (S := S) k n) m := by
  rw [int_of hv]
  obtain ⟨d, hd'⟩ := Option.isSome_iff_exists.mp hs
  exact VRes.pur h (by simp [convert, run_underlying hd', run_underlying hd, Conv.intToInt]) (.cell (.int _ _))
theorem len_res (hE : EnvOK C.E) (h : RelM C K w B m) {t ty : TypeId} {v : Value} {x y : V S} (hu : (∃ e, C.P.underlying t = some (.slice e)) ∨ C.P.underlying t = some .string) (hv : RepV C.E K w v x) (hx : (semLen m x).opt = some y)
    (hstr : C.P.underlying t = some .string ↔ ∃ l, x = .cell .str l) : VRes C K w B ((Builtin.len_ #[t] ty #[v]).run C.P w) y m := by
  have hsl : (∀ l, x ≠ .cell .str l) → ∀ {a : Option Addr} {n c : Nat}, (Builtin.len_ #[t] ty #[.slice a n c]).run C.P w = .ok (.int .i64 n) w := by
    intro hne a n c
    rcases hu with ⟨e, hu⟩ | hu
    · simp [Builtin.len_, run_underlying hu, goInt]
    · obtain ⟨l, e⟩ := hstr.1 hu; exact absurd e (hne l)
  unfold semLen at hx
  split at hx
  · rename_i t' l
    simp only [D.opt, Option.some.injEq] at hx
    subst hx
    cases hv with
    | cell hr =>
      obtain ⟨ad, cap, rfl, _⟩ := rep_slice hr
      exact VRes.pur h (hsl (fun l' q => by cases q)) (.cell (.int _ _))
  · rename_i t' l
    simp only [D.opt, Option.some.injEq] at hx
    subst hx
    cases hv with
    | full hr => exact VRes.pur h (hsl (fun l' q => by cases q)) (.cell (.int _ _))
  · simp only [D.opt, Option.some.injEq] at hx
    subst hx
    cases hv with
    | nilS a => exact VRes.pur h (hsl (fun l' q => by cases q)) (.cell (.int _ _))
  · rename_i l
    simp only [D.opt, Option.some.injEq] at hx
    subst hx
    rw [str_of hv]
    exact VRes.pur h (v := .int .i64 (List.length (α := UInt8) l)) (by simp only [Builtin.len_, run_underlying (hstr.2 ⟨l, rfl⟩), goInt, Sem.run_bind, Result.andThen_ok, Sem.run_pure, List.getElem?_toArray, List.getElem?_cons_zero]; rfl) (.cell (.int _ _))
  · rename_i id g
    split at hx
    · rename_i e' t' l g' fz hm
      split at hx
      · rename_i eg
        subst eg
        simp only [D.opt, Option.some.injEq] at hx
        subst hx
        obtain ⟨h1, h2, h3⟩ := h.ob id _ hm
        cases hv with
        | own _ _ _ hn hg hp hh =>
          rw [hh h1]
          rcases h3 with ⟨_, rfl, a, ha⟩ | ⟨hl, c, cap, p1, _⟩
          · rw [ha]; exact VRes.pur h (hsl (fun l' q => by cases q)) (.cell (.int _ _))
          · rw [p1]; exact VRes.pur h (hsl (fun l' q => by cases q)) (.cell (.int _ _))
      · simp [D.opt] at hx
    · simp [D.opt] at hx
  · simp [D.opt] at hx
theorem pick_at {α : Type} {i : Int} {f : Nat → α → D (V S)} {y : V S} : ∀ (l : List α) (n : Nat), (pickAt i n l f).opt = some y → ∃ (k : Nat) (a : α), l[k]? = some a ∧ i = ((n + k : Nat) : Int) ∧ (f (n + k) a).opt = some y
  | [], n, h => by simp [pickAt, D.opt] at h
  | a :: l, n, h => by
    simp only [pickAt, D.opt] at h
    by_cases e : i = (n : Int)
    · simp only [e, BEq.rfl, cond_true] at h
      exact ⟨0, a, rfl, by simpa using e, by simpa using h⟩
    · have e' : (i == (n : Int)) = false := by simpa using e
      rw [e'] at h
      simp only [cond_false] at h
      obtain ⟨k, b, h1, h2, h3⟩ := pick_at l (n + 1) h
      exact ⟨k + 1, b, h1, by rw [h2]; congr 1; omega, by rw [show n + (k + 1) = n + 1 + k by omega]; exact h3⟩
theorem bytes_get (l : List UInt8) (i : Nat) (b : UInt8) (h : l[i]? = some b) : (⟨l.toArray⟩ : ByteArray)[i]? = some b := by
  have hlt := (List.getElem?_eq_some_iff.1 h).1
  have hlt' : i < (⟨l.toArray⟩ : ByteArray).size := by show i < l.toArray.size; simpa using hlt
  rw [getElem?_pos (⟨l.toArray⟩ : ByteArray) i hlt']
  rw [List.getElem?_eq_getElem hlt] at h
  simp only [Option.some.injEq] at h
  rw [← h]; rfl
theorem index_res (h : RelM C K w B m) {t : TypeId} {v vi : Value} {x i y : V S} (hv : RepV C.E K w v x) (hi : RepV C.E K w vi i) (hx : (semIdx C t x i).opt = some y) :
    VRes C K w B ((Instr.index t v vi).run C.P w) y m := by
  unfold semIdx at hx
  split at hx
  · rename_i len e cs n hu
    obtain ⟨k, a, h1, h2, h3⟩ := pick_at _ _ hx
    rw [Nat.zero_add] at h2 h3
    rw [D.opt_ofOpt] at h3
    have hk : k < len := by have := (List.getElem?_eq_some_iff.1 h1).1; simpa using this
    cases hs : sizeOf? C e with
    | none => rw [hs] at h3; cases h3
    | some sz =>
      rw [hs] at h3
      simp only [Option.bind_some] at h3
      rw [int_of hi]
      cases hv with
      | agg ca vs hsz hj =>
        obtain ⟨r, r1, r2⟩ := take_rep hsz hj h3
        refine VRes.pur h ?_ r2
        have e1 : (n : Int) = (k : Int) := h2
        have h0 : (0 : Int) ≤ (k : Int) := by omega
        have h4 : (k : Int) < (len : Int) := by omega
        have : (Instr.index t (.agg ca) (.int .i64 (k : Int))).run C.P w = .ok r w := by
          simp only [Instr.index, asIntOf, Sem.run_bind, Sem.run_pure, Result.andThen_ok, run_underlying hu, run_sizeOf hs, if_pos (And.intro h0 h4), Int.toNat_natCast, r1]
        rw [← this]; congr 3
  · rename_i l n hu
    simp only [D.opt] at hx
    cases hg : geti (α := UInt8) l n with
    | none => rw [hg] at hx; simp at hx
    | some b =>
      rw [hg] at hx
      simp only [Option.bind_some, D.opt, Option.some.injEq] at hx
      subst hx
      obtain ⟨h0, h1, h2⟩ := geti_some hg
      rw [int_of hi, str_of hv]
      refine VRes.pur h ?_ (.cell (.int _ _))
      have : (Instr.index t (.string ⟨List.toArray l⟩) (.int .i64 n)).run C.P w = .ok (.int .u8 b.toNat) w := by
        have hb := bytes_get l (Int.toNat n) b h2
        have hn : @LE.le Int _ 0 n := h0
        simp only [Instr.index, asIntOf, Sem.run_bind, Sem.run_pure, Result.andThen_ok, run_underlying hu, if_pos hn, hb]
      exact this
  · simp [D.opt] at hx
theorem indexArr_res (h : RelM C K w B m) {t : TypeId} {len : Nat} {e : TypeId} {sz : Nat} (hu : C.P.underlying t = some (.array len e)) (hs : sizeOf? C e = some sz) {v : Value} {x y : V S} {k : Nat} (hk : k < len)
    (hv : RepV C.E K w v x) (hx : (semFA (k * sz) x).opt = some y) : VRes C K w B ((Instr.indexAt t v (.int .i64 (k : Int))).run C.P w) y m := by
  obtain ⟨a, rfl, hr⟩ := fa_rep hv hx
  have hk' : (k : Int) < (len : Int) := by omega
  refine VRes.pur h ?_ hr
  simp [Instr.indexAt, asIntOf, run_underlying hu, Instr.sureAddr, run_sizeOf hs]
  intro hle; omega
theorem indexAddr_res (hE : EnvOK C.E) (hT : TyOK C) (h : RelM C K w B m) {t : TypeId} {v vi : Value} {x i y : V S} {m' : Mem S} (hv : RepV C.E K w v x) (hi : RepV C.E K w vi i) (hx : (semIA C m t x i).opt = some (y, m')) :
    m' = m ∧ VRes C K w B ((Instr.indexAt t v vi).run C.P w) y m := by
  unfold semIA at hx
  split at hx
  · rename_i e n hu
    obtain ⟨T, hty, hx⟩ := opt_ofOpt_bind hx
    rw [int_of hi]
    exact elemAt_res hE hT h hu hty hv hx
  · rename_i len e n hu
    obtain ⟨sz, hs, hx⟩ := opt_ofOpt_bind hx
    rw [int_of hi]
    split at hx
    · rename_i id off
      obtain ⟨u, hp, e1⟩ := opt_bind_ret hx
      simp only [Prod.mk.injEq] at e1
      obtain ⟨rfl, rfl⟩ := e1
      obtain ⟨k, a, h1, h2, h3⟩ := pick_at _ _ hp
      rw [Nat.zero_add] at h2 h3
      have hk : k < len := by have := (List.getElem?_eq_some_iff.1 h1).1; simpa using this
      have := indexArr_res h hu hs hk hv (y := u) (by simpa [semFA, D.opt] using h3)
      refine ⟨rfl, ?_⟩
      rw [show (n : Int) = (k : Int) from h2]; exact this
    · rename_i cs
      obtain ⟨u, hp, e1⟩ := opt_bind_ret hx
      simp only [Prod.mk.injEq] at e1
      obtain ⟨rfl, rfl⟩ := e1
      obtain ⟨k, a, h1, h2, h3⟩ := pick_at _ _ hp
      rw [Nat.zero_add] at h2 h3
      have hk : k < len := by have := (List.getElem?_eq_some_iff.1 h1).1; simpa using this
      have := indexArr_res h hu hs hk hv (y := u) h3
      refine ⟨rfl, ?_⟩
      rw [show (n : Int) = (k : Int) from h2]; exact this
    · simp [D.opt] at hx
  · simp [D.opt] at hx
theorem mm_run {P : Program} (mx : Bool) (k : IntKind) (a b : Int) : ((if mx then Builtin.max2 else Builtin.min2) (.int k a) (.int k b)).run P w = .ok (.int k (mm mx a b)) w := by
  cases mx <;> simp [Builtin.max2, Builtin.min2, mm]
def mmStep (mx : Bool) (k : IntKind) (d : D (V S)) (y : V S) : D (V S) := d.bind fun v => match v, y with
  | .cell (.int j) a, .cell (.int j') b => if j = k ∧ j' = k then .ret (.cell (.int k) (mm mx a b)) else .fail
  | _, _ => .fail
theorem mm_fail (mx : Bool) (k : IntKind) : ∀ rest : List (V S), (rest.foldl (mmStep mx k) (.fail : D (V S))).opt = none
  | [] => rfl
  | r :: rest => by rw [List.foldl_cons]; exact mm_fail mx k rest
theorem mm_fold (mx : Bool) (k : IntKind) : ∀ (rest : List (V S)) (vs : List Value) (a : Int) (y : V S), vs.length = rest.length → (∀ (j : Nat) (v : Value) (x : V S), vs[j]? = some v → rest[j]? = some x → RepV C.E K w v x) →
    (rest.foldl (mmStep mx k) (.ret (.cell (.int k) a) : D (V S))).opt = some y → ∃ v, (vs.foldlM (if mx then Builtin.max2 else Builtin.min2) (.int k a) : Sem Value).run C.P w = .ok v w ∧ RepV C.E K w v y
  | [], vs, a, y, hl, _, hy => by
    have : vs = [] := List.eq_nil_of_length_eq_zero (by simpa using hl)
    subst this
    simp only [List.foldl_nil, D.opt, Option.some.injEq] at hy
    subst hy
    exact ⟨_, rfl, .cell (.int _ _)⟩
  | r :: rest, [], a, y, hl, _, hy => by simp at hl
  | r :: rest, v :: vs, a, y, hl, hv, hy => by
    have hr := hv 0 v r rfl rfl
    simp only [List.foldl_cons, mmStep, D.bind] at hy
    split at hy
    · rename_i j a' j' b e1
      cases e1
      split at hy
      · rename_i hk
        obtain ⟨_, rfl⟩ := hk
        rw [int_of hr]
        obtain ⟨u, u1, u2⟩ := mm_fold mx j' rest vs (mm mx a b) y (by simpa using hl) (fun j v x p q => hv (j + 1) v x (by simpa using p) (by simpa using q)) hy
        refine ⟨u, ?_, u2⟩
        have := mm_run (w := w) (P := C.P) mx j' a b
        rw [List.foldlM_cons, Sem.run_bind, this]
        exact u1
      · have := mm_fail (S := S) mx k rest
        rw [this] at hy; cases hy
    · have := mm_fail (S := S) mx k rest
      rw [this] at hy; cases hy
theorem minMax_res {mx : Bool} {vs : List Value} {xs : List (V S)} {y : V S} (hl : vs.length = xs.length) (hv : ∀ (j : Nat) (v : Value) (x : V S), vs[j]? = some v → xs[j]? = some x → RepV C.E K w v x)
    (hx : (semMinMax mx xs).opt = some y) : ∃ v0 rest v, vs = v0 :: rest ∧ (rest.foldlM (if mx then Builtin.max2 else Builtin.min2) v0 : Sem Value).run C.P w = .ok v w ∧ RepV C.E K w v y := by
  cases xs with
  | nil => simp [semMinMax, D.opt] at hx
  | cons x0 xs =>
    cases vs with
    | nil => simp at hl
    | cons v0 vs =>
      unfold semMinMax at hx
      split at hx
      · rename_i k x rest e
        simp only [List.cons.injEq] at e
        obtain ⟨rfl, rfl⟩ := e
        have h0 := int_of (hv 0 v0 _ rfl rfl)
        subst h0
        obtain ⟨v, q1, q2⟩ := mm_fold mx k xs vs x y (by simpa using hl) (fun j v x p q => hv (j + 1) v x (by simpa using p) (by simpa using q)) hx
        exact ⟨_, _, v, rfl, q1, q2⟩
      · simp [D.opt] at hx
theorem lookup_int {n : Int} {y : V S} : ∀ (l : List (Int × V S)), (mapAt n l).opt = some y → ∃ (j : Nat) (p : Int × V S), l[j]? = some p ∧ p.1 = n ∧ p.2 = y ∧ ∀ (i : Nat) (q : Int × V S), i < j → l[i]? = some q → q.1 ≠ n
  | [], h => by simp [mapAt, D.opt] at h
  | p :: l, h => by
    simp only [mapAt, D.opt] at h
    cases e : ieq n p.1 with
    | true =>
      rw [e] at h
      simp only [cond_true, Option.some.injEq] at h
      exact ⟨0, p, rfl, (ieq_eq e).symm, h, fun i q hi => by omega⟩
    | false =>
      rw [e] at h
      simp only [cond_false] at h
      obtain ⟨j, q, h1, h2, h3, h4⟩ := lookup_int l h
      refine ⟨j + 1, q, h1, h2, h3, fun i r hi hr => ?_⟩
      cases i with
      | zero =>
        simp at hr
        subst hr
        intro q
        simp [ieq, q] at e
      | succ i => exact h4 i r (by omega) hr
theorem findNow_at (k : IntKind) (n : Int) : ∀ (es : List MapEntry) (ky : Nat → Int) (i : Nat), (∀ (j : Nat) (e : MapEntry), es[j]? = some e → e.key = .int .i64 (ky j)) → ∀ (j : Nat) (e : MapEntry), es[j]? = some e → ky j = n → (∀ (i : Nat), i < j → ky i ≠ n) →
    Instr.findNow (.int k) (.int .i64 n) es i = some (some (i + j, e.val))
  | [], _, i, _, j, e, h, _, _ => by simp at h
  | e0 :: es, ky, i, hk, j, e, he, hkj, hne => by
    have h0 := hk 0 e0 rfl
    simp only [Instr.findNow, h0, Instr.sameNow, if_true]
    cases j with
    | zero =>
      simp at he
      subst he hkj
      simp
    | succ j =>
      have hn0 := hne 0 (by omega)
      have : (n == ky 0) = false := by simp; exact fun q => hn0 q.symm
      rw [this]
      simp only
      rw [findNow_at k n es (fun j => ky (j + 1)) (i + 1) (fun j e p => hk (j + 1) e p) j e (by simpa using he) hkj (fun i hi => hne (i + 1) (by omega))]
      congr 3; omega
theorem lookup_res (h : RelM C K w B m) {t kt et : TypeId} {k : IntKind} (hu : C.P.underlying t = some (.map kt et)) (hk : C.P.underlying kt = some (.int k)) {v vi : Value} {es : List (Int × V S)} {n : Int} {y : V S}
    (hv : RepV C.E K w v (.cmap es)) (hi : RepV C.E K w vi (.cell (.int .i64) n)) (hx : (mapAt n es).opt = some y) : VRes C K w B ((Instr.lookup t v vi false).run C.P w) y m := by
  obtain ⟨j, p, h1, h2, h3, h4⟩ := lookup_int es hx
  rw [int_of hi]
  cases hv with
  | cmap r ea clock l ix ky hst hm hky hu2 hix hkk hall hvv =>
    have hja : ix j < ea.size := hix j (List.getElem?_eq_some_iff.1 h1).1
    have he : ea[ix j]? = some ea[ix j] := by simp [hja]
    have hkn : ky (ix j) = n := (hkk j p h1).trans h2
    have hf := findNow_at k n ea.toList ky 0 (fun j e p => hky j e (by simpa using p)) (ix j) ea[ix j] (by simp [hja]) hkn (fun i hi q => by
      have := hu2 i (ix j) (by omega) hja (q.trans hkn.symm)
      omega)
    have hck' : ∀ (d : Nat) (b : Bool), (Instr.checkKey b (d + 1) kt (.int .i64 n)).run C.P w = .ok () w := by
      intro d b; simp [Instr.checkKey, run_underlying hk]
    have hck : (Instr.checkKey ea.isEmpty 10000 kt (.int .i64 n)).run C.P w = .ok () w := hck' 9999 _
    refine VRes.pur h (v := ea[ix j].val) ?_ (h3 ▸ hvv j _ p he h1)
    have hgo : (getObj r).run C.P w = .ok (.map ea clock) w := by simp [getObj, Sem.run, hm]
    simp only [Instr.lookup, Sem.run_bind, run_underlying hu, Result.andThen_ok, hgo, Sem.run_pure, hck, Instr.findKey, run_underlying hk, hf, Bool.false_eq_true, if_false]
theorem mapAtOk_spec {z : V S} {n : Int} {y : V S} : ∀ (l : List (Int × V S)), (mapAtOk z n l).opt = some y →
    (∃ (j : Nat) (p : Int × V S), l[j]? = some p ∧ p.1 = n ∧ y = .tup [p.2, .cell .bool true] ∧ ∀ (i : Nat) (q : Int × V S), i < j → l[i]? = some q → q.1 ≠ n) ∨
    (y = .tup [z, .cell .bool false] ∧ ∀ (i : Nat) (q : Int × V S), l[i]? = some q → q.1 ≠ n)
  | [], h => by
    simp only [mapAtOk, D.opt, Option.some.injEq] at h
    exact .inr ⟨h.symm, fun i q hq => by simp at hq⟩
  | p :: l, h => by
    simp only [mapAtOk, D.opt] at h
    cases e : ieq n p.1 with
    | true =>
      rw [e] at h
      simp only [cond_true, Option.some.injEq] at h
      exact .inl ⟨0, p, rfl, (ieq_eq e).symm, h.symm, fun i q hi => by omega⟩
    | false =>
      rw [e] at h
      simp only [cond_false] at h
      have hne : p.1 ≠ n := fun q => by simp [ieq, q] at e
      rcases mapAtOk_spec l h with ⟨j, q, h1, h2, h3, h4⟩ | ⟨h1, h2⟩
      · refine .inl ⟨j + 1, q, h1, h2, h3, fun i r hi hr => ?_⟩
        cases i with
        | zero => simp at hr; subst hr; exact hne
        | succ i => exact h4 i r (by omega) hr
      · refine .inr ⟨h1, fun i q hq => ?_⟩
        cases i with
        | zero => simp at hq; subst hq; exact hne
        | succ i => exact h2 i q (by simpa using hq)
theorem findNow_no (k : IntKind) (n : Int) : ∀ (es : List MapEntry) (ky : Nat → Int) (i : Nat), (∀ (j : Nat) (e : MapEntry), es[j]? = some e → e.key = .int .i64 (ky j)) → (∀ (j : Nat), j < es.length → ky j ≠ n) → Instr.findNow (.int k) (.int .i64 n) es i = some none
  | [], ky, i, _, _ => rfl
  | e0 :: es, ky, i, hk, hne => by
    have h0 := hk 0 e0 rfl
    have hn0 := hne 0 (by simp)
    simp only [Instr.findNow, h0, Instr.sameNow, if_true]
    have : (n == ky 0) = false := by simp; exact fun q => hn0 q.symm
    rw [this]
    simp only
    exact findNow_no k n es (fun j => ky (j + 1)) (i + 1) (fun j e p => hk (j + 1) e p) (fun j hj => hne (j + 1) (by simpa using hj))
theorem nilElem_zero {t kt et : TypeId} (hu : C.P.underlying t = some (.map kt et)) (h : nilElem C t = true) : (zeroValue et).run C.P w = .ok .nilIface w := by
  unfold nilElem at h
  rw [hu] at h
  simp only at h
  cases hi : C.P.info? et with
  | none => rw [hi] at h; simp at h
  | some i =>
    rw [hi] at h
    simp only [Option.bind_some] at h
    cases hz : i.zero with
    | none => rw [hz] at h; simp at h
    | some z =>
      rw [hz] at h
      cases z <;> try (simp at h; done)
      simp [zeroValue, typeInfo, hi, hz]
theorem lookupOk_res (h : RelM C K w B m) {t kt et : TypeId} {k : IntKind} (hu : C.P.underlying t = some (.map kt et)) (hk : C.P.underlying kt = some (.int k)) (hz : nilElem C t = true) {v vi : Value} {es : List (Int × V S)} {n : Int} {y : V S}
    (hv : RepV C.E K w v (.cmap es)) (hi : RepV C.E K w vi (.cell (.int .i64) n)) (hx : (mapAtOk (.cell .err false) n es).opt = some y) : VRes C K w B ((Instr.lookup t v vi true).run C.P w) y m := by
  rw [int_of hi]
  have pair : ∀ {a b : Value} {x z : V S}, RepV C.E K w a x → RepV C.E K w b z → RepV C.E K w (.tuple #[a, b]) (.tup [x, z]) := by
    intro a b x z h1 h2
    refine .tup _ _ rfl fun j c u hc hu => ?_
    match j, hc, hu with
    | 0, hc, hu => simp at hc hu; subst hc hu; exact h1
    | 1, hc, hu => simp at hc hu; subst hc hu; exact h2
    | j + 2, hc, hu => simp at hu
  cases hv with
  | cmap r ea clock l ix ky hst hm hky hu2 hix hkk hall hvv =>
    have hck' : ∀ (d : Nat) (b : Bool), (Instr.checkKey b (d + 1) kt (.int .i64 n)).run C.P w = .ok () w := by
      intro d b; simp [Instr.checkKey, run_underlying hk]
    have hck : (Instr.checkKey ea.isEmpty 10000 kt (.int .i64 n)).run C.P w = .ok () w := hck' 9999 _
    have hgo : (getObj r).run C.P w = .ok (.map ea clock) w := by simp [getObj, Sem.run, hm]
    rcases mapAtOk_spec es hx with ⟨j, p, h1, h2, rfl, h4⟩ | ⟨rfl, h2⟩
    · have hja : ix j < ea.size := hix j (List.getElem?_eq_some_iff.1 h1).1
      have he : ea[ix j]? = some ea[ix j] := by simp [hja]
      have hkn : ky (ix j) = n := (hkk j p h1).trans h2
      have hf := findNow_at k n ea.toList ky 0 (fun j e p => hky j e (by simpa using p)) (ix j) ea[ix j] (by simp [hja]) hkn (fun i hi q => by
        have := hu2 i (ix j) (by omega) hja (q.trans hkn.symm)
        omega)
      refine VRes.pur h (v := .tuple #[ea[ix j].val, .bool true]) ?_ (pair (hvv j _ p he h1) (.cell (.bool true)))
      simp only [Instr.lookup, Sem.run_bind, run_underlying hu, Result.andThen_ok, hgo, Sem.run_pure, hck, Instr.findKey, run_underlying hk, hf, if_true]
    · have hf := findNow_no k n ea.toList ky 0 (fun j e p => hky j e (by simpa using p)) (fun j hj q => by
        obtain ⟨j', hj', rfl⟩ := hall j (by simpa using hj)
        have hp := List.getElem?_eq_getElem hj'
        exact h2 j' _ hp ((hkk j' _ hp).symm.trans q))
      refine VRes.pur h (v := .tuple #[.nilIface, .bool false]) ?_ (pair (.cell .errNil) (.cell (.bool false)))
      simp only [Instr.lookup, Sem.run_bind, run_underlying hu, Result.andThen_ok, hgo, Sem.run_pure, hck, Instr.findKey, run_underlying hk, hf, if_true, nilElem_zero hu hz]
end
end Go.Lv
namespace Go.Lv
set_option linter.all false
open Go Go.RowKit
variable {S : Nat → Type}
theorem decSt_like {E : Env S} {m m' : Mem S} (hl : Like m m') (n : Nat) (z : V S) : decSt E m' n z = decSt E m n z := by
  cases z with
  | agg cs => simp only [decSt]; rw [show decLeaf (S := S) m' = decLeaf m from funext fun t => funext fun z => decLeaf_like hl t z]
  | _ => rfl
theorem dec_like {E : Env S} {m m' : Mem S} (hl : Like m m') (T : Ty) (z : V S) : dec E m' T z = dec E m T z := by
  cases T with
  | st n => exact decSt_like hl n z
  | bool => exact decLeaf_like hl .bool z
  | int k => exact decLeaf_like hl (.int k) z
  | str => exact decLeaf_like hl .str z
  | err => exact decLeaf_like hl .err z
  | fn => exact decLeaf_like hl .fn z
  | slice t => exact decLeaf_like hl (.slice t) z
theorem ofConst_owns (v : Value) : (ofConst v : V S).owns = [] := by
  have h1 : ∀ u : Value, (match (match u with
    | .bool b => (.cell .bool b : V S)
    | .int k n => .cell (.int k) n
    | .string s => .cell .str s.data.toList
    | .slice none 0 0 => .nilS
    | .nilIface => .cell .err false
    | _ => .undef) with | .own id _ => some id | _ => none) = none := by
    intro u
    split
    · rename_i q; split at q <;> cases q
    · rfl
  unfold ofConst
  split <;> try rfl
  simp only [V.owns]
  rw [List.filterMap_eq_nil_iff]
  intro a ha
  obtain ⟨u, _, rfl⟩ := List.mem_map.1 ha
  exact h1 u
/-- One part that is filled in. -/
def fillStep (cells : Array Value) (off : Nat) (v : Array Value) : Array Value := v.zipIdx.foldl (fun cs (c, j) => cs.setIfInBounds (off + j) c) cells
theorem fillList_get (off : Nat) : ∀ (vs : List Value) (n : Nat) (cells : Array Value), off + n + vs.length ≤ cells.size → ∀ k : Nat,
    ((vs.zipIdx n).foldl (fun cs (c, j) => cs.setIfInBounds (off + j) c) cells).size = cells.size ∧
    ((vs.zipIdx n).foldl (fun cs (c, j) => cs.setIfInBounds (off + j) c) cells)[k]? = if off + n ≤ k ∧ k < off + n + vs.length then vs[k - (off + n)]? else cells[k]?
  | [], n, cells, _, k => by simp; omega
  | v :: vs, n, cells, h, k => by
    simp only [List.length_cons] at h
    simp only [List.zipIdx_cons, List.foldl_cons]
    obtain ⟨h1, h2⟩ := fillList_get off vs (n + 1) (cells.setIfInBounds (off + n) v) (by simp; omega) k
    refine ⟨by rw [h1]; simp, ?_⟩
    rw [h2]
    by_cases e : k = off + n
    · subst e
      rw [if_neg (by omega), if_pos (by simp)]
      simp [Array.getElem?_setIfInBounds]; omega
    · by_cases q : off + (n + 1) ≤ k ∧ k < off + (n + 1) + vs.length
      · rw [if_pos q, if_pos (by simp; omega)]
        have : k - (off + n) = (k - (off + (n + 1))) + 1 := by omega
        rw [this, List.getElem?_cons_succ]
      · rw [if_neg q, if_neg (by simp; omega), Array.getElem?_setIfInBounds, if_neg (fun q => e q.symm)]
theorem fillStep_get (cells : Array Value) (off : Nat) (v : Array Value) (h : off + v.size ≤ cells.size) (k : Nat) :
    (fillStep cells off v).size = cells.size ∧ (fillStep cells off v)[k]? = if off ≤ k ∧ k < off + v.size then v[k - off]? else cells[k]? := by
  have := fillList_get off v.toList 0 cells (by simpa using h) k
  have e : fillStep cells off v = (v.toList.zipIdx 0).foldl (fun cs (c, j) => cs.setIfInBounds (off + j) c) cells := by
    unfold fillStep
    rw [← Array.foldl_toList, Array.toList_zipIdx]
  rw [e]
  simpa using this
section
variable {C : Ctx S} {K : Gh} {w : World} {B : Nat} {m : Mem S}
def CellsRep (C : Ctx S) (K : Gh) (w : World) (cs : Array Value) (vs : List (V S)) : Prop :=
  cs.size = vs.length ∧ ∀ (j : Nat) (c : Value) (v : V S), cs[j]? = some c → vs[j]? = some v → RepV C.E K w c v
theorem fill_one {cs : Array Value} {vs : List (V S)} {v : Value} {x : V S} {off : Nat} (h : CellsRep C K w cs vs) (hv : RepV C.E K w v x) (hd : x.defd = true) (hle : off + x.cells.length ≤ vs.length) :
    CellsRep C K w (fillStep cs off v.cells) (setCells vs off x.cells) := by
  obtain ⟨a, b⟩ := hv.cells hd
  have hle' : off + v.cells.size ≤ cs.size := by rw [a, h.1]; exact hle
  refine ⟨by rw [(fillStep_get cs off v.cells hle' 0).1, setCells_len, h.1], fun j c y hc hy => ?_⟩
  rw [(fillStep_get cs off v.cells hle' j).2] at hc
  rw [setCells_get _ _ _ hle] at hy
  rw [a] at hc
  by_cases q : off ≤ j ∧ j < off + x.cells.length
  · rw [if_pos q] at hc hy; exact b _ c y hc hy
  · rw [if_neg q] at hc hy; exact h.2 j c y hc hy
theorem fillV_rep (place : Nat → Option (Nat × Nat)) (s : TypeId) (hp : ∀ i off t n, fieldAt? C s i = some (off, t) → sizeOf? C t = some n → place i = some (off, n)) :
    ∀ (ps : List (Nat × Value)) (qs : List (Nat × V S)) (cs : Array Value) (vs vs' : List (V S)), ps.length = qs.length → (∀ (j : Nat) (p : Nat × Value) (q : Nat × V S), ps[j]? = some p → qs[j]? = some q → p.1 = q.1 ∧ RepV C.E K w p.2 q.2) →
    CellsRep C K w cs vs → fillV C s vs qs = some vs' → ∃ cs', Instr.fill place cs ps = some cs' ∧ CellsRep C K w cs' vs'
  | [], [], cs, vs, vs', _, _, h, hf => by simp only [fillV, Option.some.injEq] at hf; subst hf; exact ⟨cs, rfl, h⟩
  | [], _ :: _, _, _, _, hl, _, _, _ => by simp at hl
  | _ :: _, [], _, _, _, hl, _, _, _ => by simp at hl
  | (i, v) :: ps, (i', x) :: qs, cs, vs, vs', hl, hr, h, hf => by
    obtain ⟨e, hv⟩ := hr 0 _ _ rfl rfl
    simp only at e hv
    subst e
    simp only [fillV] at hf
    split at hf
    · rename_i off t hfa
      split at hf
      · rename_i hc
        obtain ⟨c1, c2, c3⟩ := hc
        have hpl := hp i off t _ hfa c2.symm
        obtain ⟨a, b⟩ := hv.cells c1
        obtain ⟨cs', h1, h2⟩ := fillV_rep place s hp ps qs (fillStep cs off v.cells) _ vs' (by simpa using hl) (fun j p q hp hq => hr (j + 1) p q (by simpa using hp) (by simpa using hq)) (fill_one h hv c1 c3) hf
        refine ⟨cs', ?_, h2⟩
        simp only [Instr.fill, hpl]
        have hcond : ¬ (v.cells.size ≠ x.cells.length || decide (off + v.cells.size > cs.size)) = true := by
          simp only [ne_eq, a, not_true_eq_false, decide_false, Bool.false_or, decide_eq_true_eq]
          rw [h.1]; omega
        rw [if_neg hcond]
        exact h1
      · cases hf
    · cases hf
theorem fillA_rep (sz : Nat) : ∀ (ps : List (Nat × Value)) (qs : List (Nat × V S)) (cs : Array Value) (vs vs' : List (V S)), ps.length = qs.length → (∀ (j : Nat) (p : Nat × Value) (q : Nat × V S), ps[j]? = some p → qs[j]? = some q → p.1 = q.1 ∧ RepV C.E K w p.2 q.2) →
    CellsRep C K w cs vs → fillA sz vs qs = some vs' → ∃ cs', Instr.fill (fun i => some (i * sz, sz)) cs ps = some cs' ∧ CellsRep C K w cs' vs'
  | [], [], cs, vs, vs', _, _, h, hf => by simp only [fillA, Option.some.injEq] at hf; subst hf; exact ⟨cs, rfl, h⟩
  | [], _ :: _, _, _, _, hl, _, _, _ => by simp at hl
  | _ :: _, [], _, _, _, hl, _, _, _ => by simp at hl
  | (i, v) :: ps, (i', x) :: qs, cs, vs, vs', hl, hr, h, hf => by
    obtain ⟨e, hv⟩ := hr 0 _ _ rfl rfl
    simp only at e hv
    subst e
    simp only [fillA] at hf
    split at hf
    · rename_i hc
      obtain ⟨c1, c2, c3⟩ := hc
      obtain ⟨a, b⟩ := hv.cells c1
      obtain ⟨cs', h1, h2⟩ := fillA_rep sz ps qs (fillStep cs (i * sz) v.cells) _ vs' (by simpa using hl) (fun j p q hp hq => hr (j + 1) p q (by simpa using hp) (by simpa using hq)) (fill_one h hv c1 c3) hf
      refine ⟨cs', ?_, h2⟩
      simp only [Instr.fill]
      have hcond : ¬ (v.cells.size ≠ sz || decide (i * sz + v.cells.size > cs.size)) = true := by
        simp only [ne_eq, a, c2, not_true_eq_false, decide_false, Bool.false_or, decide_eq_true_eq]
        rw [h.1]; rw [c2] at c3; omega
      rw [if_neg hcond]
      exact h1
    · cases hf
theorem run_places {P : Program} (fs : List Field) (sz : Field → Nat) (h : ∀ f ∈ fs, (sizeOf f.type).run P w = .ok (sz f) w) :
    (fs.mapM (m := Sem) fun f => do pure (f.offset, ← sizeOf f.type)).run P w = .ok (fs.map fun f => (f.offset, sz f)) w := by
  induction fs with
  | nil => rfl
  | cons f fs ih =>
    rw [List.mapM_cons]
    simp only [Sem.run_bind, h f (by simp), Result.andThen_ok, Sem.run_pure, ih (fun g hg => h g (by simp [hg])), List.map_cons]
theorem build_res (h : RelM C K w B m) {t : TypeId} {ps : Array (Nat × Value)} {qs : List (Nat × V S)} {y : V S} (hl : ps.toList.length = qs.length)
    (hr : ∀ (j : Nat) (p : Nat × Value) (q : Nat × V S), ps.toList[j]? = some p → qs[j]? = some q → p.1 = q.1 ∧ RepV C.E K w p.2 q.2) (hx : (semBuild C t qs).opt = some y) :
    VRes C K w B ((Instr.build t ps).run C.P w) y m := by
  unfold semBuild at hx
  obtain ⟨z, hz, hx⟩ := opt_ofOpt_bind hx
  have hzr : CellsRep C K w z.cells (ofConst z : V S).cells := zero_cells z
  have hzv : (zeroValue t).run C.P w = .ok z w := by
    cases hi : C.P.info? t with
    | none => rw [hi] at hz; cases hz
    | some i => rw [hi] at hz; simp only [Option.bind_some] at hz; simp [zeroValue, typeInfo, hi, hz]
  split at hx
  · rename_i fs hu
    split at hx
    · rename_i hok
      obtain ⟨cs, hf, hx⟩ := opt_ofOpt_bind hx
      simp only [D.opt, Option.some.injEq] at hx
      subst hx
      have hsz : ∀ f ∈ fs.toList, (sizeOf f.type).run C.P w = .ok ((sizeOf? C f.type).getD 0) w := by
        intro f hf
        simp only [fieldsOK, List.all_eq_true] at hok
        obtain ⟨n, hn⟩ := Option.isSome_iff_exists.1 (hok f hf)
        rw [run_sizeOf hn, hn]; rfl
      have hpl := run_places (P := C.P) (w := w) fs.toList (fun f => (sizeOf? C f.type).getD 0) hsz
      have hpl' : (fs.mapM (m := Sem) fun f => do pure (f.offset, ← sizeOf f.type)).run C.P w = .ok ((fs.toList.map fun f => (f.offset, (sizeOf? C f.type).getD 0)).toArray) w := by
        rw [Array.mapM_eq_mapM_toList, Sem.run_map, hpl]; rfl
      obtain ⟨cs', h1, h2⟩ := fillV_rep (C := C) (K := K) (w := w) (fun i => ((fs.toList.map fun f => (f.offset, (sizeOf? C f.type).getD 0)).toArray)[i]?) t (fun i off ft n hfa hn => by
        obtain ⟨fs', x, k, hu', hx', _, e⟩ := field_inv hfa
        rw [hu] at hu'
        cases hu'
        simp only [Prod.mk.injEq] at e
        obtain ⟨rfl, rfl⟩ := e
        simp [hx', hn]) ps.toList qs z.cells _ cs hl hr hzr hf
      refine VRes.pur h ?_ (.agg cs' _ h2.1 h2.2)
      simp only [Instr.build, Sem.run_bind, hzv, Result.andThen_ok, run_underlying hu, hpl', h1, Sem.run_pure]
    · simp [D.opt] at hx
  · rename_i n e hu
    obtain ⟨sz, hs, hx⟩ := opt_ofOpt_bind hx
    obtain ⟨cs, hf, hx⟩ := opt_ofOpt_bind hx
    simp only [D.opt, Option.some.injEq] at hx
    subst hx
    obtain ⟨cs', h1, h2⟩ := fillA_rep (C := C) (K := K) (w := w) sz ps.toList qs z.cells _ cs hl hr hzr hf
    refine VRes.pur h ?_ (.agg cs' _ h2.1 h2.2)
    simp only [Instr.build, Sem.run_bind, hzv, Result.andThen_ok, run_underlying hu, run_sizeOf hs, h1, Sem.run_pure]
  · simp [D.opt] at hx
/-- Parts in their order fill all. -/
theorem fill_all (sz : Nat) : ∀ (vs : List Value) (n : Nat) (cells : Array Value), (∀ v ∈ vs, v.cells.size = sz) → (n + vs.length) * sz ≤ cells.size →
    ∃ c, Instr.fill (fun i => some (i * sz, sz)) cells ((vs.zipIdx n).map fun p => (p.2, p.1)) = some c ∧ c.size = cells.size ∧ (∀ k, k < n * sz → c[k]? = cells[k]?) ∧ (∀ k, (n + vs.length) * sz ≤ k → c[k]? = cells[k]?) ∧
      ∀ (i : Nat) (v : Value) (j : Nat), vs[i]? = some v → j < sz → c[(n + i) * sz + j]? = v.cells[j]?
  | [], n, cells, _, _ => ⟨cells, rfl, rfl, fun _ _ => rfl, fun _ _ => rfl, fun i v j h => by simp at h⟩
  | v :: vs, n, cells, h1, h2 => by
    have hv := h1 v (by simp)
    have hle : n * sz + v.cells.size ≤ cells.size := by
      rw [hv]
      have : (n + 1) * sz ≤ (n + (v :: vs).length) * sz := Nat.mul_le_mul_right _ (by simp)
      rw [Nat.succ_mul] at this; omega
    have hg := fun k => fillStep_get cells (n * sz) v.cells hle k
    obtain ⟨c, c1, c2, c3, c4, c5⟩ := fill_all sz vs (n + 1) (fillStep cells (n * sz) v.cells) (fun u hu => h1 u (by simp [hu])) (by rw [(hg 0).1]; simp only [List.length_cons] at h2; rw [show n + 1 + vs.length = n + (vs.length + 1) by omega]; exact h2)
    refine ⟨c, ?_, by rw [c2, (hg 0).1], fun k hk => ?_, fun k hk => ?_, fun i u j hi hj => ?_⟩
    · simp only [List.zipIdx_cons, List.map_cons, Instr.fill]
      have hcond : ¬ (v.cells.size ≠ sz || decide (n * sz + v.cells.size > cells.size)) = true := by
        simp only [ne_eq, hv, not_true_eq_false, decide_false, Bool.false_or, decide_eq_true_eq]
        rw [hv] at hle; omega
      rw [if_neg hcond]
      exact c1
    · rw [c3 k (by rw [Nat.succ_mul]; omega), (hg k).2, if_neg (by omega)]
    · simp only [List.length_cons] at hk
      have h3 : (n + 1 + vs.length) * sz ≤ k := by rw [show n + 1 + vs.length = n + (vs.length + 1) by omega]; exact hk
      have h4 : (n + 1) * sz ≤ (n + 1 + vs.length) * sz := Nat.mul_le_mul_right _ (by omega)
      rw [c4 k h3, (hg k).2, if_neg (by rw [hv]; rw [Nat.succ_mul] at h4; omega)]
    · cases i with
      | zero =>
        simp at hi
        subst hi
        rw [Nat.add_zero, c3 _ (by rw [Nat.succ_mul]; omega), (hg _).2, if_pos (by rw [hv]; omega)]
        congr 1; omega
      | succ i =>
        have := c5 i u j (by simpa using hi) hj
        rw [show n + (i + 1) = n + 1 + i by omega]; exact this
theorem inOrder_eq : ∀ (n : Nat) (qs : List (Nat × V S)) (vs : List (V S)), inOrder n qs = some vs → qs = (vs.zipIdx n).map fun p => (p.2, p.1)
  | n, [], vs, h => by simp only [inOrder, Option.some.injEq] at h; subst h; rfl
  | n, (i, v) :: r, vs, h => by
    simp only [inOrder] at h
    split at h
    · rename_i e
      subst e
      cases hr : inOrder (i + 1) r with
      | none => rw [hr] at h; cases h
      | some us =>
        rw [hr] at h
        simp only [Option.map_some, Option.some.injEq] at h
        subst h
        simp only [List.zipIdx_cons, List.map_cons]
        rw [← inOrder_eq (i + 1) r us hr]
    · cases h
theorem allM_get {α : Type} : ∀ (l : List (Option α)) (r : List α), allM l = some r → r.length = l.length ∧ ∀ (i : Nat) (x : α), r[i]? = some x → l[i]? = some (some x)
  | [], r, h => by simp only [allM, Option.some.injEq] at h; subst h; simp
  | none :: _, r, h => by simp [allM] at h
  | some a :: l, r, h => by
    simp only [allM] at h
    cases hl : allM l with
    | none => rw [hl] at h; cases h
    | some us =>
      rw [hl] at h
      simp only [Option.map_some, Option.some.injEq] at h
      subst h
      obtain ⟨h1, h2⟩ := allM_get l us hl
      refine ⟨by simp [h1], fun i x hi => ?_⟩
      cases i with
      | zero => simpa using hi
      | succ i => simpa using h2 i x (by simpa using hi)
theorem RelM.stab (h : RelM C K w B m) (o : Obj) (n : Nat) : RelM C { K with σ := fun b => if b = w.heap.size then n else K.σ b } (w.alloc o) B m ∧ Ext K w { K with σ := fun b => if b = w.heap.size then n else K.σ b } (w.alloc o) := by
  have hx : Ext K w { K with σ := fun b => if b = w.heap.size then n else K.σ b } (w.alloc o) := by
    refine ⟨Nat.le_refl _, fun i _ => ⟨Nat.le_refl _, fun _ => ⟨rfl, rfl, rfl⟩⟩, fun b => ?_, fun b k hk => ?_, fun b ob h0 he => ?_, .inr rfl⟩
    · by_cases e : b = w.heap.size
      · subst e; rw [h.new _ (Nat.le_refl _)]; exact Nat.zero_le _
      · simp [e]
    · rcases Nat.lt_or_ge b w.heap.size with q | q
      · exact World.cell?_of_block (heap_old b q)
      · rw [h.new b q] at hk; omega
    · rcases Nat.lt_or_ge b w.heap.size with q | q
      · rw [heap_old b q]; exact keeps.of he
      · rw [h.new b q] at h0; omega
  refine ⟨h.frame hx rfl (fun i _ => ⟨rfl, rfl, rfl, rfl, rfl⟩) (fun i hi hl => heap_old _ (h.blk hi hl)) (fun i hi hl => ?_) (fun b hb => ?_) (by simp) (fun b hb => ?_), hx⟩
  · have := h.blk hi hl
    simp only [ite_eq_right_iff]; intro q; omega
  · simp only [World.size_alloc] at hb
    have : b ≠ w.heap.size := by omega
    simp only [this, if_false]; exact h.new b (by omega)
  · have := h.base
    simp only [ite_eq_right_iff]; intro q; omega
theorem cell_inv {v : Value} {t : Ty} {x : den S t} (h : RepV C.E K w v (.cell t x)) : Rep C.E K.σ w v t x := by
  cases h with | cell h => exact h
theorem encV_cells (E : Env S) (t : Ty) (x : den S t) : (encV E t x).cells = elemCells E t x := by cases t <;> rfl
theorem mark1_len0 (m : Mem S) (i : Nat) : (mark1 m i).length = m.length := by
  unfold mark1; split <;> simp
theorem mark_len' (m : Mem S) : ∀ (g : List Nat), (mark m g).length = m.length := by
  intro g
  induction g generalizing m with
  | nil => rfl
  | cons i g ih => simp only [mark]; rw [ih, mark1_len0]
theorem buildSlice_res (hE : EnvOK C.E) (hT : TyOK C) (h : RelM C K w B m) {t : TypeId} {len : Nat} {ps : Array (Nat × Value)} {qs : List (Nat × V S)} {y : V S} {m' : Mem S} (hl : ps.toList.length = qs.length)
    (hr : ∀ (j : Nat) (p : Nat × Value) (q : Nat × V S), ps.toList[j]? = some p → qs[j]? = some q → p.1 = q.1 ∧ RepV C.E K w p.2 q.2) (hx : (semBS C m t len qs).opt = some (y, m')) :
    VRes C K w B ((Instr.buildSlice t len ps).run C.P w) y m' := by
  unfold semBS at hx
  split at hx
  · rename_i e hu
    obtain ⟨T, hty, hx⟩ := opt_ofOpt_bind hx
    obtain ⟨vs, hin, hx⟩ := opt_ofOpt_bind hx
    obtain ⟨l, hall, hx⟩ := opt_ofOpt_bind hx
    split at hx
    · rename_i hlen
      obtain ⟨hvl, hcap⟩ := hlen
      obtain ⟨i, z, hi, hsz, hz, hzs, hpos, hby⟩ := hT e T hty
      have hqs := inOrder_eq 0 qs vs hin
      obtain ⟨hll, hlg⟩ := allM_get _ _ hall
      simp only [List.length_map] at hll
      obtain ⟨K1, x1, s1, r1, f1⟩ := freeze h (vs.flatMap V.owns)
      -- the parts' values
      obtain ⟨us, hus, hups⟩ : ∃ us : List Value, us.length = vs.length ∧ ps.toList = (us.zipIdx 0).map fun p => (p.2, p.1) := by
        refine ⟨ps.toList.map (·.2), by rw [List.length_map, hl, hqs]; simp, ?_⟩
        apply List.ext_getElem?
        intro j
        simp only [List.getElem?_map, List.getElem?_zipIdx]
        cases hj : ps.toList[j]? with
        | none => simp
        | some p =>
          have hjl : j < qs.length := by rw [← hl]; exact (List.getElem?_eq_some_iff.1 hj).1
          obtain ⟨e1, _⟩ := hr j p qs[j] hj (by simp [hjl])
          have : qs[j].1 = j := by
            have := congrArg (fun l : List (Nat × V S) => l[j]?) hqs
            simp only [List.getElem?_map, List.getElem?_zipIdx] at this
            rw [List.getElem?_eq_getElem hjl] at this
            cases hv : vs[j]? with
            | none => rw [hv] at this; simp at this
            | some v => rw [hv] at this; simp at this; rw [this]
          simp only [Option.map_some]
          rw [Nat.zero_add]
          congr 1
          cases p
          simp only at e1
          rw [e1, this]
      have hur : ∀ (j : Nat) (u : Value) (v : V S), us[j]? = some u → vs[j]? = some v → RepV C.E K w u v := by
        intro j u v hu hv
        refine (hr j (j, u) (j, v) ?_ ?_).2
        · rw [hups]; simp [List.getElem?_map, List.getElem?_zipIdx, hu]
        · rw [hqs]; simp [List.getElem?_map, List.getElem?_zipIdx, hv]
      have hel : ∀ (j : Nat) (u : Value) (x : den S T), us[j]? = some u → l[j]? = some x → RepV C.E K1 w u (encV C.E T x) := by
        intro j u x hu hx
        have hjl : j < vs.length := by rw [← hus]; exact (List.getElem?_eq_some_iff.1 hu).1
        have hdec := hlg j x hx
        rw [List.getElem?_map, List.getElem?_eq_getElem hjl] at hdec
        simp only [Option.map_some, Option.some.injEq] at hdec
        have hdl : dec C.E (mark m (vs.flatMap V.owns)) T vs[j] = some x := by
          have hlk := mark_like m (vs.flatMap V.owns)
          have : dec C.E (mark m (vs.flatMap V.owns)) T vs[j] = dec C.E m T vs[j] := dec_like hlk T vs[j]
          rw [this]; exact hdec
        refine dec_rep hE r1 ((hur j u _ hu (List.getElem?_eq_getElem hjl)).mono x1) hdl ?_
        intro id hid
        exact f1 id (List.mem_flatMap.2 ⟨_, List.getElem_mem hjl, hid⟩)
      have hucell : ∀ u ∈ us, u.cells.size = tsize C.E T := by
        intro u hu
        obtain ⟨j, hj, rfl⟩ := List.getElem_of_mem hu
        have hjl : j < l.length := by rw [hll, ← hus]; exact hj
        have := hel j us[j] l[j] (by simp [hj]) (by simp [hjl])
        have hd : (encV C.E T l[j]).defd = true := by cases T <;> rfl
        rw [(this.cells hd).1, encV_cells, elemCells_eq, List.length_map, cellsOf_len hE]
      let zero : Array Value := if len * i.size = 0 then #[] else z.cells
      let base : Array Value := (Array.range (len * i.size)).map (zero[· % zero.size]!)
      have hbase : base.size = len * tsize C.E T := by simp [base, hsz]
      obtain ⟨c, c1, c2, _, _, c5⟩ := fill_all (tsize C.E T) us 0 base hucell (by rw [hbase, Nat.zero_add, hus, hvl]; exact Nat.le_refl _)
      have hrun : (Instr.buildSlice t len ps).run C.P w = .ok (.slice (some ⟨w.heap.size, 0, none⟩) len len) (w.alloc (.cells c e)) := by
        have hsi : (sizeOf e).run C.P w = .ok i.size w := by simp [sizeOf, typeInfo, hi]
        have hle : ¬ (len * i.size > 2 ^ 24) := by rw [hsz]; omega
        have hfill : Instr.fill (fun k => some (k * i.size, i.size)) ((Array.range (len * i.size)).map (zero[· % zero.size]!)) ps.toList = some c := by
          rw [hups, hsz]
          have : ((Array.range (len * tsize C.E T)).map (zero[· % zero.size]!)) = base := by simp only [base, hsz]
          rw [this]; exact c1
        have hzv : (zeroValue e).run C.P w = .ok z w := by simp [zeroValue, typeInfo, hi, hz]
        by_cases q : len * i.size = 0
        · have hz0 : zero = #[] := by simp [zero, q]
          rw [hz0] at hfill
          simp only [Instr.buildSlice, Sem.run_bind, run_underlying hu, Result.andThen_ok, hsi, if_neg hle, if_pos q, Sem.run_pure, hfill, newRow, run_newObj]
          rfl
        · have hz0 : zero = z.cells := by simp [zero, q]
          rw [hz0] at hfill
          simp only [Instr.buildSlice, Sem.run_bind, run_underlying hu, Result.andThen_ok, hsi, if_neg hle, if_neg q, Sem.run_pure, hzv, hfill, newRow, run_newObj]
          rfl
      have hcell : ∀ (k : Nat) (x : den S T), l[k]? = some x → ∀ (j : Nat) (cl : Cell S), (cellsOf C.E T x)[j]? = some cl → ∃ v, c[k * tsize C.E T + j]? = some v ∧ Rep C.E K1.σ w v cl.t cl.x := by
        intro k x hk j cl hj
        have hkl : k < us.length := by rw [hus, ← hll]; exact (List.getElem?_eq_some_iff.1 hk).1
        have hjt : j < tsize C.E T := by rw [← cellsOf_len hE T x]; exact (List.getElem?_eq_some_iff.1 hj).1
        have hg := c5 k us[k] j (by simp [hkl]) hjt
        rw [Nat.zero_add] at hg
        have hrep := hel k us[k] x (by simp [hkl]) hk
        have hd : (encV C.E T x).defd = true := by cases T <;> rfl
        obtain ⟨q1, q2⟩ := hrep.cells hd
        have hjs : j < us[k].cells.size := by rw [hucell _ (List.getElem_mem hkl)]; exact hjt
        have hcl := q2 j us[k].cells[j] (.cell cl.t cl.x) (by simp [hjs]) (by rw [encV_cells, elemCells_eq, List.getElem?_map, hj]; rfl)
        exact ⟨us[k].cells[j], by rw [hg]; simp [hjs], cell_inv hcl⟩
      cases hown : C.own with
      | true =>
        rw [hown] at hx
        simp only [cond_true, D.opt, Option.some.injEq, Prod.mk.injEq] at hx
        obtain ⟨rfl, rfl⟩ := hx
        have hll' : l.length = len := by rw [hll, hvl]
        obtain ⟨K2, n1, n2, n3, n4⟩ := newArr hE r1 (e := e) (T := T) (l := l) (c := c) (cap := len) (Nat.le_of_eq hll') (by
          have : tsize C.E T = i.size := hsz.symm
          have hp : 0 < tsize C.E T := by rw [this]; exact hpos
          have : len ≤ len * tsize C.E T := Nat.le_mul_of_pos_right _ hp
          simp only [maxLen]; omega) (by rw [c2, hbase]) (.inl rfl) hcell
        rw [mark_len'] at n4
        rw [hll'] at n4
        exact ⟨K2, _, _, hrun, x1.trans n1, n2, n3, n4⟩
      | false =>
      rw [hown] at hx
      simp only [cond_false, D.opt, Option.some.injEq, Prod.mk.injEq] at hx
      obtain ⟨rfl, rfl⟩ := hx
      clear hcell
      by_cases h0 : len = 0
      · subst h0
        simp only [if_true]
        obtain ⟨r2, x2⟩ := r1.stab (.cells c e) 0
        exact ⟨_, _, _, hrun, x1.trans x2, below_alloc h _, r2, .nilS _⟩
      · rw [if_neg h0]
        obtain ⟨r2, x2⟩ := r1.stab (.cells c e) (l.length * tsize C.E T)
        refine ⟨_, _, _, hrun, x1.trans x2, below_alloc h _, r2, ?_⟩
        have hll' : l.length = len := by rw [hll, hvl]
        rw [← hll']
        refine .full (.slice T l w.heap.size 0 l.length (fun j => c.getD j Go.undef) (Nat.le_refl _) ?_ (fun j hj => ?_) (fun k x hk j cl hj => ?_))
        · simp only [if_true]; omega
        · have hjc : j < c.size := by rw [c2, hbase, ← hll']; exact hj
          rw [Nat.zero_add, World.cell?_alloc_new]
          simp [Array.getD, hjc]
        · have hkl : k < us.length := by rw [hus, ← hll]; exact (List.getElem?_eq_some_iff.1 hk).1
          have hjt : j < tsize C.E T := by rw [← cellsOf_len hE T x]; exact (List.getElem?_eq_some_iff.1 hj).1
          have hg := c5 k us[k] j (by simp [hkl]) hjt
          rw [Nat.zero_add] at hg
          have hrep := hel k us[k] x (by simp [hkl]) hk
          have hd : (encV C.E T x).defd = true := by cases T <;> rfl
          obtain ⟨q1, q2⟩ := hrep.cells hd
          have hjs : j < us[k].cells.size := by rw [hucell _ (List.getElem_mem hkl)]; exact hjt
          have hcell := q2 j us[k].cells[j] (.cell cl.t cl.x) (by simp [hjs]) (by rw [encV_cells, elemCells_eq, List.getElem?_map, hj]; rfl)
          have : c.getD (k * tsize C.E T + j) Go.undef = us[k].cells[j] := by
            rw [Array.getD_eq_getD_getElem?, hg]
            simp [hjs]
          rw [this]
          exact (cell_inv hcell).mono x2.σ x2.cell
    · simp [D.opt] at hx
  · simp [D.opt] at hx
theorem okLen_iff {n : Int} (h : okLen n = true) : 0 ≤ n ∧ n ≤ (maxList : Int) := by simpa [okLen] using h
theorem make_res (hE : EnvOK C.E) (hT : TyOK C) (h : RelM C K w B m) {t : TypeId} {vl vc : Value} {l c y : V S} {m' : Mem S} (hl : RepV C.E K w vl l) (hc : RepV C.E K w vc c) (hx : (semMake C m t l c).opt = some (y, m')) :
    VRes C K w B ((Instr.makeSlice t vl vc).run C.P w) y m' := by
  unfold semMake at hx
  split at hx
  · rename_i e hu
    obtain ⟨T, hty, hx⟩ := opt_ofOpt_bind hx
    split at hx
    · rename_i n n' _
      simp only [D.opt] at hx
      cases hb : (ieq n n' && okLen n) with
      | false => rw [hb] at hx; simp at hx
      | true =>
        rw [hb] at hx
        simp only [cond_true] at hx
        simp only [Bool.and_eq_true] at hb
        obtain ⟨hn1, hn2⟩ := hb
        have en : n = n' := ieq_eq hn1
        obtain ⟨h0, h1⟩ := okLen_iff hn2
        obtain ⟨z, hz, hx⟩ := opt_ofOpt_bind hx
        obtain ⟨x, hdx, hx⟩ := opt_ofOpt_bind hx
        simp only [D.opt, Option.some.injEq, Prod.mk.injEq] at hx
        obtain ⟨rfl, rfl⟩ := hx
        obtain ⟨i, z', hi, hsz, hz', hzs, hpos, hby⟩ := hT e T hty
        have ez : z' = z := by rw [hi] at hz; simp only [Option.bind_some] at hz; rw [hz'] at hz; cases hz; rfl
        subst ez
        rw [int_of hl, int_of hc]
        have key : ∀ k : Nat, k ≤ maxList → VRes C K w B ((Instr.makeSlice t (.int .i64 (k : Int)) (.int .i64 (k : Int))).run C.P w) (.own m.length 0) (m ++ [.arr e T (List.replicate k x) 0 false]) := by
          intro k hk
          have hbytes : (i.bytes : Int) * (k : Int) ≤ 281474976710656 := by
            have : i.bytes * k ≤ 1024 * 137438953472 := Nat.mul_le_mul hby hk
            have : ((i.bytes * k : Nat) : Int) ≤ 281474976710656 := by omega
            rwa [Int.natCast_mul] at this
          have hrun := run_make (P := C.P) w t e i z' hu hi hz' .i64 .i64 k k (by omega) (Int.le_refl _) hbytes (by simp only [maxList] at hk; omega)
          rw [Int.toNat_natCast] at hrun
          have hrep := dec_rep hE h (ofConst_rep C.E K w z') hdx (by rw [ofConst_owns]; intro id hid; cases hid)
          have hd : (encV C.E T x).defd = true := by cases T <;> rfl
          obtain ⟨q1, q2⟩ := hrep.cells hd
          obtain ⟨K', k1, k2, k3, k4⟩ := newArr hE h (e := e) (T := T) (l := List.replicate k x) (c := madeCells z'.cells (k * i.size)) (cap := k) (by simp) (by simp only [maxList] at hk; simp only [maxLen]; omega) (by rw [size_madeCells, hsz]) (.inl rfl) (fun a y ha j cl hj => by
            have hak : a < k := by simpa using (List.getElem?_eq_some_iff.1 ha).1
            have : y = x := by
              rw [List.getElem?_replicate] at ha
              split at ha <;> first | (cases ha; rfl) | cases ha
            subst this
            have hjt : j < tsize C.E T := by rw [← cellsOf_len hE T y]; exact (List.getElem?_eq_some_iff.1 hj).1
            have hjz : j < z'.cells.size := by rw [hzs, hsz]; exact hjt
            have hc := q2 j z'.cells[j] (.cell cl.t cl.x) (by simp [hjz]) (by rw [encV_cells, elemCells_eq, List.getElem?_map, hj]; rfl)
            have hlt : a * tsize C.E T + j < k * i.size := by
              rw [hsz]
              have : (a + 1) * tsize C.E T ≤ k * tsize C.E T := Nat.mul_le_mul_right _ hak
              rw [Nat.succ_mul] at this; omega
            refine ⟨z'.cells[j], ?_, cell_inv hc⟩
            have hmod : (a * tsize C.E T + j) % z'.cells.size = j := by
              rw [hzs, hsz, Nat.mul_comm, Nat.mul_add_mod]; exact Nat.mod_eq_of_lt hjt
            simp [madeCells, hlt, hmod, hjz])
          exact ⟨K', _, _, by rw [hrun]; simp, k1, k2, k3, k4⟩
        have key2 : ∀ n : Int, 0 ≤ n → n ≤ (maxList : Int) → VRes C K w B ((Instr.makeSlice t (.int .i64 n) (.int .i64 n)).run C.P w) (.own m.length 0) (m ++ [.arr e T (List.replicate n.toNat x) 0 false]) := by
          intro n h0 h1
          have := key n.toNat (by omega)
          rwa [Int.toNat_of_nonneg h0] at this
        subst en
        exact key2 n h0 h1
    · simp [D.opt] at hx
  · simp [D.opt] at hx
end
end Go.Lv
namespace Go.Lv
set_option linter.all false
open Go Go.RowKit
variable {S : Nat → Type}
section
variable {C : Ctx S} {K : Gh} {w : World} {B : Nat} {m : Mem S}
theorem copy_res (hE : EnvOK C.E) (hT : TyOK C) (h : RelM C K w B m) {t t' ty e : TypeId} {T : Ty} (hu : C.P.underlying t = some (.slice e)) (hty : C.ty e = some T) (h1 : tsize C.E T = 1) {vd vx : Value} {d x y : V S} {m' : Mem S}
    (hvd : RepV C.E K w vd d) (hvx : RepV C.E K w vx x) (hx : (semCopy m e T d x).opt = some (y, m')) :
    VRes C K w B ((Builtin.copy_ #[t, t'] ty #[vd, vx]).run C.P w) y m' := by
  obtain ⟨i, z, hi, hsz, hz, hzs, hpos, hby⟩ := hT e T hty
  have hs1 : (C.P.info? e).map (·.size) = some 1 := by rw [hi]; simp [hsz, h1]
  unfold semCopy at hx
  obtain ⟨ys, hys, hx⟩ := opt_ofOpt_bind hx
  obtain ⟨ad, cx, rfl, ds, d1, d2, d3, d4, d5⟩ := list_cells hE h hvx hys
  rw [h1, Nat.mul_one] at d1
  split at hx
  · rename_i id g _
    split at hx
    · rename_i e' t0 l g' hm
      split at hx
      · rename_i et
        subst et
        split at hx
        · rename_i hge
          obtain ⟨rfl, rfl⟩ := hge
          simp only [D.opt, Option.some.injEq, Prod.mk.injEq] at hx
          obtain ⟨rfl, rfl⟩ := hx
          obtain ⟨q1, q2, q3⟩ := h.ob id _ hm
          have hin : id < K.n := by rw [h.n]; exact (List.getElem?_eq_some_iff.1 hm).1
          have hvd' : vd = K.hv id := by cases hvd with | own _ _ _ hn hg hp hh => exact hh q1
          rw [hvd']
          have setId : m.set id (.arr e t0 l g false) = m := by
            apply List.ext_getElem?
            intro j
            by_cases ej : j = id
            · subst ej; rw [List.getElem?_set_self (by rw [← h.n]; exact hin), hm]
            · rw [List.getElem?_set_ne (fun q => ej q.symm)]
          by_cases hn0 : Nat.min ys.length l.length = 0
          · have hl0 : ys.take l.length ++ l.drop ys.length = l := by
              rcases Nat.eq_zero_or_pos ys.length with q | q
              · have : ys = [] := List.eq_nil_of_length_eq_zero q
                subst this; simp
              · have : l.length = 0 := by have hm0 : min ys.length l.length = 0 := hn0; omega
                have : l = [] := List.eq_nil_of_length_eq_zero this
                subst this; simp
            have hmin : min ys.length l.length = 0 := hn0
            rw [hl0, hmin, setId]
            have : ∃ da dc, K.hv id = .slice da l.length dc := by
              rcases q3 with ⟨_, rfl, a, ha⟩ | ⟨_, c, cap, p1, _⟩
              · exact ⟨a, 0, ha⟩
              · exact ⟨_, cap, p1⟩
            obtain ⟨da, dc, hda⟩ := this
            rw [hda]
            exact VRes.pur h (run_copy_none w t t' ty e da ad l.length dc ys.length cx hu hs1 hn0) (.cell (.int _ _))
          · rcases q3 with ⟨_, rfl, a, ha⟩ | ⟨hl, c, cap, p1, p2, p3, p4, p5, p6, p7, p8, p9⟩
            · simp at hn0
            · rw [p1]
              rw [h1, Nat.mul_one] at p4
              have hmin0 : 0 < min ys.length l.length := Nat.pos_of_ne_zero hn0
              cases ad with
              | none =>
                have := d3 rfl
                subst this
                simp at d1
                omega
              | some a =>
                let k := min ys.length l.length
                have hk1 : k ≤ ys.length := Nat.min_le_left _ _
                have hk2 : k ≤ l.length := Nat.min_le_right _ _
                let cs := ds.take k
                have hcl : cs.length = k := by simp only [cs, List.length_take, d1]; exact Nat.min_eq_left hk1
                have hfit : 0 + cs.length ≤ c.size := by rw [hcl, p4]; omega
                have hrun := run_copy_row (P := C.P) w t t' ty e (K.ι id) 0 l.length cap a ys.length cx c e cs hu hs1 p5 (by rw [hcl]) (fun j v hj => by
                  simp only [cs, List.getElem?_take] at hj
                  split at hj
                  · exact d2 a rfl j v hj
                  · cases hj) hfit (fun u hu => d4 u (List.mem_of_mem_take hu))
                have hra : (c.toList.take 0 ++ cs ++ c.toList.drop (0 + cs.length)).toArray = rowAfter c 0 cs.toArray := by simp [rowAfter]
                rw [hra] at hrun
                have hfit' : 0 + cs.toArray.size ≤ c.size := by simpa using hfit
                have hxx : Ext K w K (w.setRow (K.ι id) (rowAfter c 0 cs.toArray)) := Ext.setRow h p5 (p8 rfl)
                refine ⟨K, _, _, hrun, hxx, Below.setRow _ p9, ?_, ?_⟩
                rotate_left
                · have : (goInt cs.length) = .int .i64 ((min ys.length l.length : Nat) : Int) := by simp only [goInt, hcl]; rfl
                  rw [this]; exact .cell (.int _ _)
                · refine h.set hin hxx rfl (fun j _ _ => ⟨rfl, rfl, rfl, rfl, rfl⟩) (fun b => .inl rfl) (fun j _ hk => setRow_other w _ j _ (hk hl)) (by rw [size_setRow]; exact Nat.le_refl _) (fun _ => .inl ⟨hl, rfl⟩) (fun b hb => h.new b (by rw [size_setRow] at hb; exact hb)) ?_
                  have hlen : (ys.take l.length ++ l.drop ys.length).length = l.length := by simp; omega
                  refine ⟨q1, q2, .inr ⟨hl, rowAfter c 0 cs.toArray, cap, by rw [hlen]; exact p1, by rw [hlen]; exact p2, p3, by rw [rowAfter_size _ _ _ hfit', h1, Nat.mul_one]; exact p4, setRow_heap w _ c _ e _ p5, fun i' x hi' j cl hj => ?_, ?_, fun _ => p8 rfl, p9⟩⟩
                  · have hjl : j < 1 := by rw [← h1, ← cellsOf_len hE t0 x]; exact (List.getElem?_eq_some_iff.1 hj).1
                    have hj0 : j = 0 := by omega
                    subst hj0
                    rw [h1, Nat.mul_one, Nat.add_zero, rowAfter_get _ _ _ hfit', List.size_toArray, hcl]
                    by_cases hik : i' < k
                    · rw [if_pos (by omega)]
                      rw [List.getElem?_append_left (by simp; omega), List.getElem?_take] at hi'
                      rw [if_pos (by omega)] at hi'
                      obtain ⟨v, r1, r2⟩ := d5 i' x hi' 0 cl hj
                      rw [h1, Nat.mul_one, Nat.add_zero] at r1
                      refine ⟨v, ?_, r2.mono hxx.σ hxx.cell⟩
                      simp only [Nat.sub_zero, List.getElem?_toArray, cs, List.getElem?_take, hik, if_true]
                      exact r1
                    · rw [if_neg (by omega)]
                      have hil : i' < l.length := by rw [← hlen]; exact (List.getElem?_eq_some_iff.1 hi').1
                      have hyl : ys.length ≤ i' := by simp only [k] at hik; omega
                      rw [List.getElem?_append_right (by simp; omega), List.getElem?_drop] at hi'
                      have : ys.length + (i' - (ys.take l.length).length) = i' := by simp; omega
                      rw [this] at hi'
                      obtain ⟨v, r1, r2⟩ := p6 i' x hi' 0 cl hj
                      rw [h1, Nat.mul_one, Nat.add_zero] at r1
                      exact ⟨v, r1, r2.mono hxx.σ hxx.cell⟩
                  · rw [p8 rfl]; exact Nat.zero_le _
        · simp [D.opt] at hx
      · simp [D.opt] at hx
    · simp [D.opt] at hx
  · simp [D.opt] at hx
end
end Go.Lv
namespace Go.Lv
set_option linter.all false
open Go Go.RowKit
variable {S : Nat → Type}
/-- A call of a function with a Go body goes into it. -/
def Enters (P : Program) (f : FuncId) : Prop := ∃ fn, P.funcs[f]? = some fn ∧ fn.body.isNone = false ∧ (fn.name == "runtime.NumGoroutine") = false
theorem Enters.run {P : Program} {f : FuncId} (h : Enters P f) (args : Array Value) (w : World) : (callFunc f args).run P w = .ok (.enter f args) w := by
  obtain ⟨fn, h1, h2, h3⟩ := h
  simp only [callFunc, Sem.run_bind, run_program, Result.andThen_ok, h1, h2, h3, Bool.false_eq_true, if_false, Sem.run_pure]
/-- The arguments of a call of a function that has a contract. -/
def RepArgs (E : Env S) (σ : Nat → Nat) (w : World) (vs : Array Value) (cs : List (Cell S)) : Prop :=
  vs.size = cs.length ∧ ∀ (j : Nat) (v : Value) (c : Cell S), vs[j]? = some v → cs[j]? = some c → RepV E (gh0 σ) w v (encV E c.t c.x)
def SpecOK (C : Ctx S) (f : FuncId) (sp : Spec S) : Prop := Enters C.P f ∧
  ∀ (σ : Nat → Nat) (w : World) (vs : Array Value) (cs : List (Cell S)) (r : sp.R), GlobOK C σ w → (∀ b, w.heap.size ≤ b → σ b = 0) → RepArgs C.E σ w vs cs → sp.run cs = some r →
    Calls C.P f vs w fun e w' => ∃ v σ', e = .returned v ∧ Below w.heap.size w w' ∧ (∀ b, b < w.heap.size → σ' b = σ b) ∧ (∀ b, w'.heap.size ≤ b → σ' b = 0) ∧ RepV C.E (gh0 σ') w' v (encAll C.E (sp.enc r))
/-- Boxes stay, but those that closures may turn. -/
def BoxKeep (C : Ctx S) (m m' : Mem S) : Prop := ∀ (id : Nat) (cs : List (V S)) (fz : Bool), C.wb id = false → m[id]? = some (.box cs fz) → m'[id]? = some (.box cs fz)
def ClW (C : Ctx S) (cl : Cl S) : Prop := ∀ (f : FuncId) (args : List (V S)) (m : Mem S) (x : V S) (m' : Mem S), C.wf f = true → (cl f args m).opt = some (x, m') → BoxKeep C m m'
theorem ClW.none {C : Ctx S} {cl : Cl S} (h : ∀ f, C.wf f = false) : ClW C cl := fun f _ _ _ _ hf => by rw [h f] at hf; cases hf
def ClOK (C : Ctx S) (cl : Cl S) : Prop := ClW C cl ∧ ∀ (f : FuncId), C.inl f = true → Enters C.P f ∧
  ∀ (K : Gh) (w : World) (B : Nat) (m : Mem S) (args : List (V S)) (vs : Array Value) (x : V S) (m' : Mem S), RelM C K w B m → vs.size = args.length → (∀ (j : Nat) (v : Value) (y : V S), vs[j]? = some v → args[j]? = some y → RepV C.E K w v y) →
    (cl f args m).opt = some (x, m') → Calls C.P f vs w fun e w' => ∃ v K', e = .returned v ∧ Ext K w K' w' ∧ Below B w w' ∧ RelM C K' w' B m' ∧ RepV C.E K' w' v x
section
variable {C : Ctx S} {K : Gh} {w : World} {B : Nat} {m : Mem S}
theorem enc_gh0 {t : Ty} {v : Value} {y : den S t} (h : RepV C.E K w v (encV C.E t y)) : RepV C.E (gh0 K.σ) w v (encV C.E t y) := by
  have leaf : ∀ (t : Ty) (y : den S t), RepV C.E K w v (.cell t y) → RepV C.E (gh0 K.σ) w v (.cell t y) := fun t y h => by cases h with | cell h => exact .cell h
  cases t with
  | st i =>
    simp only [encV] at h ⊢
    cases h with
    | agg cs vs hs hj =>
      refine .agg cs _ hs fun j c u hc hu => ?_
      have := hj j c u hc hu
      rw [List.getElem?_map] at hu
      cases hcl : (C.E.toC i y)[j]? with
      | none => rw [hcl] at hu; simp at hu
      | some cl =>
        rw [hcl] at hu
        simp only [Option.map_some, Option.some.injEq] at hu
        subst hu
        cases this with | cell h => exact .cell h
  | bool => exact leaf .bool y h
  | int k => exact leaf (.int k) y h
  | str => exact leaf .str y h
  | err => exact leaf .err y h
  | fn => exact leaf .fn y h
  | slice t => exact leaf (.slice t) y h
theorem decAll_rep (hE : EnvOK C.E) (h : RelM C K w B m) : ∀ (ts : List Ty) (xs : List (V S)) (cs : List (Cell S)) (vs : List Value), vs.length = xs.length → (∀ (j : Nat) (v : Value) (y : V S), vs[j]? = some v → xs[j]? = some y → RepV C.E K w v y) →
    Frz C.E K m (xs.flatMap V.owns) → decAll C.E m ts xs = some cs → vs.length = cs.length ∧ ∀ (j : Nat) (v : Value) (c : Cell S), vs[j]? = some v → cs[j]? = some c → RepV C.E (gh0 K.σ) w v (encV C.E c.t c.x)
  | [], [], cs, vs, hl, _, _, hd => by
    simp only [decAll, Option.some.injEq] at hd
    subst hd
    exact ⟨hl, fun j v c _ hc => by simp at hc⟩
  | [], _ :: _, cs, vs, hl, _, _, hd => by simp [decAll] at hd
  | _ :: _, [], cs, vs, hl, _, _, hd => by simp [decAll] at hd
  | t :: ts, x :: xs, cs, [], hl, _, _, hd => by simp at hl
  | t :: ts, x :: xs, cs, v :: vs, hl, hr, hf, hd => by
    simp only [decAll] at hd
    cases h1 : dec C.E m t x with
    | none => rw [h1] at hd; cases hd
    | some y =>
      rw [h1] at hd
      simp only [Option.bind_some] at hd
      cases h2 : decAll C.E m ts xs with
      | none => rw [h2] at hd; cases hd
      | some r =>
        rw [h2] at hd
        simp only [Option.bind_some, Option.some.injEq] at hd
        subst hd
        obtain ⟨i1, i2⟩ := decAll_rep hE h ts xs r vs (by simpa using hl) (fun j v y p q => hr (j + 1) v y (by simpa using p) (by simpa using q)) (fun id hid => hf id (by simp only [List.flatMap_cons, List.mem_append]; exact .inr hid)) h2
        refine ⟨by simp [i1], fun j u c hu hc => ?_⟩
        cases j with
        | zero =>
          simp only [List.getElem?_cons_zero, Option.some.injEq] at hu hc
          subst hu hc
          exact enc_gh0 (dec_rep hE h (hr 0 v x rfl rfl) h1 fun id hid => hf id (by simp only [List.flatMap_cons, List.mem_append]; exact .inl hid))
        | succ j => exact i2 j u c (by simpa using hu) (by simpa using hc)
/-- Behind a call that makes memory alone. -/
theorem RelM.called (h : RelM C K w B m) {w' : World} {σ' : Nat → Nat} (hb : Below w.heap.size w w') (h1 : ∀ b, b < w.heap.size → σ' b = K.σ b) (h2 : ∀ b, w'.heap.size ≤ b → σ' b = 0) :
    Ext K w { K with σ := σ' } w' ∧ RelM C { K with σ := σ' } w' B m := by
  have hx : Ext K w { K with σ := σ' } w' := by
    refine ⟨Nat.le_refl _, fun i _ => ⟨Nat.le_refl _, fun _ => ⟨rfl, rfl, rfl⟩⟩, fun b => ?_, fun b o ho => ?_, fun b ob h0 he => ?_, .inr rfl⟩
    · rcases Nat.lt_or_ge b w.heap.size with q | q
      · exact Nat.le_of_eq (h1 b q).symm
      · rw [h.new b q]; exact Nat.zero_le _
    · rcases Nat.lt_or_ge b w.heap.size with q | q
      · exact hb.cell (p := ⟨b, o, none⟩) q
      · rw [h.new b q] at ho; omega
    · rcases Nat.lt_or_ge b w.heap.size with q | q
      · rw [hb.block b q]; exact keeps.of he
      · rw [h.new b q] at h0; omega
  exact ⟨hx, h.frame hx rfl (fun i _ => ⟨rfl, rfl, rfl, rfl, rfl⟩) (fun i hi hl => hb.block _ (h.blk hi hl)) (fun i hi hl => h1 _ (h.blk hi hl)) h2 hb.size (fun b q => h1 b (Nat.lt_of_lt_of_le q h.base))⟩
theorem callFn_res (hE : EnvOK C.E) (hS : ∀ f sp, C.spec f = some sp → SpecOK C f sp) {cl : Cl S} (hC : ClOK C cl) (h : RelM C K w B m) {f : FuncId} {args : List (V S)} {vs : Array Value} {x : V S} {m' : Mem S} (hl : vs.size = args.length)
    (hr : ∀ (j : Nat) (v : Value) (y : V S), vs[j]? = some v → args[j]? = some y → RepV C.E K w v y) (hx : (callFn C cl m f args).opt = some (x, m')) :
    Enters C.P f ∧ Calls C.P f vs w fun e w' => ∃ v K', e = .returned v ∧ Ext K w K' w' ∧ Below B w w' ∧ RelM C K' w' B m' ∧ RepV C.E K' w' v x := by
  unfold callFn at hx
  split at hx
  · rename_i sp hsp
    obtain ⟨cs, hcs, hx⟩ := opt_ofOpt_bind hx
    simp only [D.opt] at hx
    cases hrun : sp.run cs with
    | none => rw [hrun] at hx; simp at hx
    | some r =>
      rw [hrun] at hx
      simp only [Option.bind_some, D.opt, Option.some.injEq, Prod.mk.injEq] at hx
      obtain ⟨rfl, rfl⟩ := hx
      obtain ⟨hen, hspec⟩ := hS f sp hsp
      refine ⟨hen, ?_⟩
      obtain ⟨K1, x1, s1, r1, f1⟩ := freeze h (args.flatMap V.owns)
      have hcs' : decAll C.E (mark m (args.flatMap V.owns)) sp.args args = some cs := by
        rw [← hcs]
        have hlk := mark_like m (args.flatMap V.owns)
        generalize mark m (args.flatMap V.owns) = m2 at hlk
        have : ∀ (ts : List Ty) (xs : List (V S)), decAll C.E m2 ts xs = decAll C.E m ts xs := by
          intro ts
          induction ts with
          | nil => intro xs; cases xs <;> rfl
          | cons t ts ih => intro xs; cases xs with
            | nil => rfl
            | cons x xs => simp only [decAll, dec_like hlk t x, ih xs]
        exact this _ _
      obtain ⟨a1, a2⟩ := decAll_rep hE r1 sp.args args cs vs.toList (by simpa using hl) (fun j v y p q => (hr j v y (by simpa using p) q).mono x1) f1 hcs'
      refine (hspec K1.σ w vs cs r r1.glob r1.new ⟨by simpa using a1, fun j v c p q => a2 j v c (by simpa using p) q⟩ hrun).mono ?_
      rintro e w' ⟨v, σ', rfl, b1, b2, b3, b4⟩
      obtain ⟨y1, y2⟩ := r1.called b1 b2 b3
      exact ⟨v, _, rfl, x1.trans y1, b1.mono h.base, y2, b4.mono (gh0_to { K1 with σ := σ' } w')⟩
  · split at hx
    · rename_i hin
      obtain ⟨hen, hcl⟩ := hC.2 f hin
      exact ⟨hen, hcl K w B m args vs x m' h hl hr hx⟩
    · simp [D.opt] at hx
end
end Go.Lv
namespace Go.Lv
set_option linter.all false
open Go Go.RowKit
variable {S : Nat → Type}
/-- Entries and pairs, one by one. -/
def Ents (q : IntKind) (es : List MapEntry) (l : List (Int × Bool)) : Prop := es.length = l.length ∧ ∀ (j : Nat) (e : MapEntry) (p : Int × Bool), es[j]? = some e → l[j]? = some p → e.key = .int q p.1 ∧ e.val = .bool p.2
theorem find_spec (q q' : IntKind) (n : Int) : ∀ (es : List MapEntry) (l : List (Int × Bool)) (i : Nat), Ents q es l →
    (Instr.findNow (.int q') (.int q n) es i = some none ∧ mget n l = false ∧ ∀ b, mput n b l = l ++ [(n, b)]) ∨
    ∃ j e, es[j]? = some e ∧ Instr.findNow (.int q') (.int q n) es i = some (some (i + j, e.val)) ∧ e.key = .int q n ∧ e.val = .bool (mget n l) ∧ ∀ b, mput n b l = l.set j (n, b)
  | [], [], i, _ => .inl ⟨rfl, rfl, fun _ => rfl⟩
  | [], _ :: _, i, h => by have := h.1; simp at this
  | _ :: _, [], i, h => by have := h.1; simp at this
  | e :: es, p :: l, i, h => by
    obtain ⟨h0, h1⟩ := h.2 0 e p rfl rfl
    have hr : Ents q es l := ⟨by simpa using h.1, fun j e p a b => h.2 (j + 1) e p (by simpa using a) (by simpa using b)⟩
    simp only [Instr.findNow, h0, Instr.sameNow, if_true]
    by_cases hn : n = p.1
    · subst hn
      refine .inr ⟨0, e, rfl, by simp, h0, ?_, fun b => ?_⟩
      · rw [h1]; simp [mget, ieq]
      · simp [mput, ieq]
    · have hb : (n == p.1) = false := by simpa using hn
      have hb2 : ieq n p.1 = false := hb
      rw [hb]
      simp only
      rcases find_spec q q' n es l (i + 1) hr with ⟨r1, r2, r3⟩ | ⟨j, e', r1, r2, r3, r4, r5⟩
      · refine .inl ⟨r1, ?_, fun b => ?_⟩
        · simp only [mget, hb2, cond_false]; exact r2
        · simp only [mput, hb2, cond_false, r3]; rfl
      · refine .inr ⟨j + 1, e', by simpa using r1, ?_, r3, ?_, fun b => ?_⟩
        · rw [r2]; congr 3; omega
        · simp only [mget, hb2, cond_false]; exact r4
        · simp only [mput, hb2, cond_false, r5]; rfl
section
variable {C : Ctx S} {K : Gh} {w : World} {B : Nat} {m : Mem S}
theorem mapKB_inv {t : TypeId} {k : IntKind} (h : mapKB C t = some k) : ∃ kt et, C.P.underlying t = some (.map kt et) ∧ C.P.underlying kt = some (.int k) ∧ (zeroValue et).run C.P w = .ok (.bool false) w := by
  unfold mapKB at h
  split at h
  · rename_i kt et hu
    split at h
    · rename_i q h1 h2
      split at h
      · rename_i hz
        cases h
        refine ⟨kt, et, hu, h1, ?_⟩
        cases hi : C.P.info? et with
        | none => rw [hi] at hz; simp at hz
        | some i =>
          rw [hi] at hz
          simp only [Option.bind_some] at hz
          cases hzz : i.zero with
          | none => rw [hzz] at hz; simp at hz
          | some z =>
            rw [hzz] at hz
            cases z <;> try (simp at hz; done)
            rename_i b
            cases b <;> try (simp at hz; done)
            simp [zeroValue, typeInfo, hi, hzz]
      · rename_i hz
        simp at h
    · cases h
  · cases h
theorem makeMap_res (h : RelM C K w B m) {t : TypeId} {k : IntKind} (hk : mapKB C t = some k) : VRes C K w B ((Instr.makeMap t none).run C.P w) (.mapr m.length) (m ++ [.map (.int k) .bool []]) := by
  have hrun : (Instr.makeMap t none).run C.P w = .ok (.map (some w.heap.size)) (w.alloc (.map #[] 0)) := rfl
  have ho : ObjOK C.E (K.push w.heap.size .nilIface 0 true) (w.alloc (.map #[] 0)) B K.n (.map (.int k) .bool []) := by
    refine ⟨by simp [Gh.push], by simp [Gh.push], #[], 0, by simp only [Gh.push, if_true]; exact heap_new, ⟨rfl, fun j e p q => by simp at q⟩, ?_, ?_⟩
    · simp only [Gh.push, if_true]; exact h.new _ (Nat.le_refl _)
    · simp only [Gh.push, if_true]; exact h.base
  obtain ⟨hr, hx⟩ := h.push (w' := w.alloc (.map #[] 0)) (by simp) (fun k hk => heap_old k hk) (fun _ => Nat.le_refl _) ho
  refine ⟨_, _, _, hrun, hx, below_alloc h _, hr, .mapr _ _ ?_ ⟨_, rfl⟩ fun _ => ?_⟩
  · simp only [Gh.push, h.n]; omega
  · simp [Gh.push, h.n]
theorem map_ob (h : RelM C K w B m) {id : Nat} {k : IntKind} {l : List (Int × Bool)} (hm : m[id]? = some (.map (.int k) .bool l)) : K.gen id = 0 ∧ K.live id = true ∧ ∃ es clock, w.heap[K.ι id]? = some (.map es clock) ∧ Ents k es.toList l ∧ K.σ (K.ι id) = 0 ∧ B ≤ K.ι id := by
  obtain ⟨h0, hl, es, clock, h1, h2, h3, h4⟩ := h.ob id _ hm
  exact ⟨h0, hl, es, clock, h1, ⟨by rw [Array.length_toList]; exact h2.1, fun j e p a b => h2.2 j e p (by rw [← Array.getElem?_toList]; exact a) b⟩, h3, h4⟩
theorem mapGet_res (h : RelM C K w B m) {t : TypeId} {id : Nat} {q : IntKind} {n : Int} {v vi : Value} {y : V S} (hv : RepV C.E K w v (.mapr id)) (hi : RepV C.E K w vi (.cell (.int q) n)) (hx : (semMapGet C m t (.mapr id) q n).opt = some y) :
    VRes C K w B ((Instr.lookup t v vi false).run C.P w) y m := by
  unfold semMapGet at hx
  simp only at hx
  split at hx
  · rename_i k l hm
    split at hx
    · rename_i hc
      obtain ⟨rfl, hk⟩ := hc
      simp only [D.opt, Option.some.injEq] at hx
      subst hx
      rw [int_of hi]
      obtain ⟨g0, hl, es, clock, h1, h2, h3, h4⟩ := map_ob h hm
      obtain ⟨kt, et, hu, hkt, hz⟩ := mapKB_inv (w := w) hk
      cases hv with
      | mapr _ _ hn hp hh =>
        rw [hh g0]
        have hck' : ∀ (d : Nat) (b : Bool), (Instr.checkKey b (d + 1) kt (.int k n)).run C.P w = .ok () w := by
          intro d b; simp [Instr.checkKey, run_underlying hkt]
        have hck : (Instr.checkKey es.isEmpty 10000 kt (.int k n)).run C.P w = .ok () w := hck' 9999 _
        have hgo : (getObj (K.ι id)).run C.P w = .ok (.map es clock) w := by simp [getObj, Sem.run, h1]
        refine VRes.pur h (v := .bool (mget n l)) ?_ (.cell (.bool _))
        rcases find_spec k k n es.toList l 0 h2 with ⟨r1, r2, _⟩ | ⟨j, e, r1, r2, r3, r4, _⟩
        · simp only [Instr.lookup, Sem.run_bind, run_underlying hu, Result.andThen_ok, hgo, Sem.run_pure, hck, Instr.findKey, run_underlying hkt, r1, Bool.false_eq_true, if_false, hz, r2]
        · simp only [Instr.lookup, Sem.run_bind, run_underlying hu, Result.andThen_ok, hgo, Sem.run_pure, hck, Instr.findKey, run_underlying hkt, r2, Bool.false_eq_true, if_false, r4]
    · simp [D.opt] at hx
  · simp [D.opt] at hx
theorem ents_push {q : IntKind} {es : List MapEntry} {l : List (Int × Bool)} (h : Ents q es l) (n : Int) (b : Bool) (c : Nat) : Ents q (es ++ [{ key := .int q n, val := .bool b, born := c }]) (l ++ [(n, b)]) := by
  refine ⟨by simp [h.1], fun j e p he hp => ?_⟩
  by_cases hj : j < es.length
  · rw [List.getElem?_append_left hj] at he
    rw [List.getElem?_append_left (by rw [← h.1]; exact hj)] at hp
    exact h.2 j e p he hp
  · have h1 := (List.getElem?_eq_some_iff.1 he).1
    simp at h1
    have : j = es.length := by omega
    subst this
    rw [List.getElem?_append_right (Nat.le_refl _)] at he
    rw [h.1, List.getElem?_append_right (Nat.le_refl _)] at hp
    simp at he hp
    subst he hp
    exact ⟨rfl, rfl⟩
theorem ents_set {q : IntKind} {es : List MapEntry} {l : List (Int × Bool)} (h : Ents q es l) (i : Nat) (n : Int) (b : Bool) (e' : MapEntry) (h1 : e'.key = .int q n) (h2 : e'.val = .bool b) : Ents q (es.set i e') (l.set i (n, b)) := by
  refine ⟨by simp [h.1], fun j e p he hp => ?_⟩
  rw [List.getElem?_set] at he hp
  by_cases hij : i = j
  · subst hij
    rw [if_pos rfl] at he hp
    split at he
    · split at hp
      · cases he; cases hp; exact ⟨h1, h2⟩
      · cases hp
    · cases he
  · rw [if_neg hij] at he hp
    exact h.2 j e p he hp
theorem stays (k : IntKind) (n : Int) : (Instr.keyThatStays (.int k n) (.int k n)).run C.P w = .ok (.int k n) w := by
  have : Instr.sameBits 10000 (.int k n) (.int k n) = true := by simp [Instr.sameBits]
  simp [Instr.keyThatStays, this]
theorem modify_set {α : Type} : ∀ (l : List α) (j : Nat) (f : α → α) (a : α), l[j]? = some a → l.modify j f = l.set j (f a)
  | [], j, f, a, h => by simp at h
  | b :: l, 0, f, a, h => by simp at h; subst h; simp
  | b :: l, j + 1, f, a, h => by
    have := modify_set l j f a (by simpa using h)
    simp [this]
theorem mapPut_res (h : RelM C K w B m) {t : TypeId} {x i u : V S} {v vi vv : Value} {y : V S} {m' : Mem S} (hv : RepV C.E K w v x) (hi : RepV C.E K w vi i) (hb : RepV C.E K w vv u) (hx : (semMapPut C m t x i u).opt = some (y, m')) :
    y = .undef ∧ ∃ K' w', (Instr.mapUpdate t v vi vv).run C.P w = .ok () w' ∧ Ext K w K' w' ∧ Below B w w' ∧ RelM C K' w' B m' := by
  unfold semMapPut at hx
  split at hx
  · rename_i id q n b
    split at hx
    · rename_i k l hm
      split at hx
      · rename_i hc
        obtain ⟨rfl, hk⟩ := hc
        simp only [D.opt, Option.some.injEq, Prod.mk.injEq] at hx
        obtain ⟨rfl, rfl⟩ := hx
        refine ⟨rfl, ?_⟩
        rw [int_of hi, bool_of hb]
        obtain ⟨g0, hl, es, clock, h1, h2, h3, h4⟩ := map_ob h hm
        obtain ⟨kt, et, hu, hkt, hz⟩ := mapKB_inv (w := w) hk
        have hin : id < K.n := by rw [h.n]; exact (List.getElem?_eq_some_iff.1 hm).1
        have hbk : K.ι id < w.heap.size := h.blk hin hl
        cases hv with
        | mapr _ _ hn hp hh =>
          rw [hh g0]
          have hck' : ∀ (d : Nat) (b : Bool), (Instr.checkKey b (d + 1) kt (.int k n)).run C.P w = .ok () w := by
            intro d b; simp [Instr.checkKey, run_underlying hkt]
          have hck : (Instr.checkKey false 10000 kt (.int k n)).run C.P w = .ok () w := hck' 9999 _
          have hgo : (getObj (K.ι id)).run C.P w = .ok (.map es clock) w := by simp [getObj, Sem.run, h1]
          have hso : ∀ o : Obj, (setObj (K.ι id) o).run C.P w = .ok () { w with heap := w.heap.setIfInBounds (K.ι id) o } := fun o => by simp [setObj, Sem.run, h1]
          -- behind the store
          have fin : ∀ (es' : Array MapEntry) (clock' : Nat), Ents k es'.toList (mput n b l) → ∃ K' w', Result.ok () { w with heap := w.heap.setIfInBounds (K.ι id) (.map es' clock') } = .ok () w' ∧ Ext K w K' w' ∧ Below B w w' ∧ RelM C K' w' B (m.set id (.map (.int k) .bool (mput n b l))) := by
            intro es' clock' hE
            have hoth : ∀ j, j ≠ K.ι id → (w.heap.setIfInBounds (K.ι id) (.map es' clock'))[j]? = w.heap[j]? := fun j hj => by rw [Array.getElem?_setIfInBounds, if_neg (fun q => hj q.symm)]
            have hx : Ext K w K { w with heap := w.heap.setIfInBounds (K.ι id) (.map es' clock') } := by
              refine ⟨Nat.le_refl _, fun i _ => ⟨Nat.le_refl _, fun _ => ⟨rfl, rfl, rfl⟩⟩, fun _ => Nat.le_refl _, fun b o ho => ?_, fun b ob q1 q2 => ?_, .inr rfl⟩
              · have : b ≠ K.ι id := by intro q; subst q; omega
                exact World.cell?_of_block (hoth b this)
              · have : b ≠ K.ι id := by intro q; subst q; omega
                exact keeps.of ((hoth b this).trans q2)
            refine ⟨K, _, rfl, hx, ⟨rfl, rfl, rfl, by simp, fun j hj => hoth j (by omega)⟩, ?_⟩
            refine h.set hin hx rfl (fun j _ _ => ⟨rfl, rfl, rfl, rfl, rfl⟩) (fun b => .inl rfl) (fun j _ hj => hoth j (hj hl)) (by simp) (fun _ => .inl ⟨hl, rfl⟩) (fun b hb => h.new b (by simpa using hb)) ?_
            refine ⟨g0, hl, es', clock', by simp [hbk], ⟨by rw [← Array.length_toList]; exact hE.1, fun j e p a b => hE.2 j e p (by rw [Array.getElem?_toList]; exact a) b⟩, h3, h4⟩
          rcases find_spec k k n es.toList l 0 h2 with ⟨r1, r2, r3⟩ | ⟨j, e, r1, r2, r3, r4, r5⟩
          · have hrun : (Instr.mapUpdate t (.map (some (K.ι id))) (.int k n) (.bool b)).run C.P w = .ok () { w with heap := w.heap.setIfInBounds (K.ι id) (.map (es.push { key := .int k n, val := .bool b, born := clock }) (clock + 1)) } := by
              simp only [Instr.mapUpdate, Sem.run_bind, run_underlying hu, Result.andThen_ok, hgo, hck, Instr.findKey, run_underlying hkt, r1, Sem.run_pure, hso]
            rw [hrun]
            refine fin _ _ ?_
            have e1 : mput n b l = (l ++ [(n, b)] : List (Int × Bool)) := r3 b
            rw [e1, Array.toList_push]
            exact ents_push h2 n b clock
          · have hj : j < es.size := by rw [← Array.length_toList]; exact (List.getElem?_eq_some_iff.1 r1).1
            have hje : es[j]? = some e := by rw [← Array.getElem?_toList]; exact r1
            have hst : (Instr.keyThatStays e.key (.int k n)).run C.P w = .ok (.int k n) w := by
              rw [r3]
              exact stays k n
            have hrun : (Instr.mapUpdate t (.map (some (K.ι id))) (.int k n) (.bool b)).run C.P w = .ok () { w with heap := w.heap.setIfInBounds (K.ι id) (.map (es.modify j fun e => { e with key := .int k n, val := .bool b }) clock) } := by
              simp only [Instr.mapUpdate, Sem.run_bind, run_underlying hu, Result.andThen_ok, hgo, hck, Instr.findKey, run_underlying hkt, r2, Sem.run_pure, Nat.zero_add, hje, Option.map_some, Option.getD_some, hst, hso]
            rw [hrun]
            refine fin _ _ ?_
            have hmod : (es.modify j fun e => { e with key := .int k n, val := .bool b }).toList = es.toList.set j { e with key := .int k n, val := .bool b } := by
              rw [Array.toList_modify]
              exact modify_set _ _ _ _ r1
            have e1 : mput n b l = ((l : List (Int × Bool)).set j (n, b)) := r5 b
            rw [hmod, e1]
            exact ents_set h2 j n b _ rfl rfl
      · simp [D.opt] at hx
    · simp [D.opt] at hx
  · simp [D.opt] at hx
end
end Go.Lv
namespace Go.Lv
set_option linter.all false
open Go Go.RowKit
variable {S : Nat → Type}
section
variable {C : Ctx S} {K : Gh} {w : World} {B : Nat} {m : Mem S}
theorem OpRes.pur (h : RelM C K w B m) {r : Result Next} {v : Value} {x : V S} (hr : r = .ok (.value v) w) (hv : RepV C.E K w v x) : OpRes C K w B r x m :=
  .inl ⟨K, w, v, .inl hr, .refl K w, Below.refl B w, h, hv⟩
theorem split_some {α : Type} {b : Bool} {x y : D α} {r : α} (h : (D.split b x y).opt = some r) : (b = true ∧ x.opt = some r) ∨ (b = false ∧ y.opt = some r) := by
  cases b
  · exact .inr ⟨rfl, h⟩
  · exact .inl ⟨rfl, h⟩
theorem store_res (hE : EnvOK C.E) (h : RelM C K w B m) {t : TypeId} {a v : Value} {x y z : V S} {m' : Mem S} (ha : RepV C.E K w a x) (hv : RepV C.E K w v y) (hx : (semStore C m t y x).opt = some (z, m')) :
    z = .undef ∧ ∃ K' w', (Instr.storeAt t a v).run C.P w = .ok () w' ∧ Ext K w K' w' ∧ Below B w w' ∧ RelM C K' w' B m' := by
  unfold semStore at hx
  split at hx
  · rename_i id off
    split at hx
    · rename_i cs hm
      split at hx
      · rename_i hc
        obtain ⟨c1, c2, c3⟩ := hc
        simp only [D.opt, Option.some.injEq, Prod.mk.injEq] at hx
        obtain ⟨rfl, rfl⟩ := hx
        obtain ⟨w', q1, q2, q3, q4⟩ := store_box h hm ha hv c1 c2 c3
        exact ⟨rfl, K, w', q1, q2, q3, q4⟩
      · simp [D.opt] at hx
    · simp [D.opt] at hx
  · rename_i id g i off
    split at hx
    · rename_i e T l g' hm
      split at hx
      · rename_i hg
        obtain ⟨rfl, hid⟩ := hg
        simp only [D.opt] at hx
        cases hi : l[i]? with
        | none => rw [hi] at hx; simp at hx
        | some xx =>
          rw [hi] at hx
          simp only [Option.bind_some] at hx
          split at hx
          · rename_i hc
            obtain ⟨c1, c2, c3⟩ := hc
            have hel : (elemCells C.E T xx).length = tsize C.E T := by rw [elemCells_eq, List.length_map, cellsOf_len hE]
            -- a list of one kind of cells
            have one : ∀ (T : Ty) (l : List (den S T)) (xx : den S T), (∀ n, T ≠ .st n) → m[id]? = some (.arr e T l g false) → l[i]? = some xx → off + y.cells.length ≤ (elemCells C.E T xx).length →
                ((D.ofOpt (decLeaf m T y)).bind fun y' => (.ret (V.undef, (mark m y.owns).set id (.arr e T (l.set i y') g false)) : D (V S × Mem S))).opt = some (z, m') →
                z = .undef ∧ ∃ K' w', (Instr.storeAt t a v).run C.P w = .ok () w' ∧ Ext K w K' w' ∧ Below B w w' ∧ RelM C K' w' B m' := by
              intro T l xx hT hm hi c3 hx
              obtain ⟨y', hy, hx⟩ := opt_ofOpt_bind hx
              simp only [D.opt, Option.some.injEq, Prod.mk.injEq] at hx
              obtain ⟨rfl, rfl⟩ := hx
              have hcl : ∀ u : den S T, cellsOf C.E T u = [⟨T, u⟩] := by intro u; cases T <;> first | rfl | (exact absurd rfl (hT _))
              have hce : elemCells C.E T xx = [.cell T xx] := by rw [elemCells_eq, hcl]; rfl
              have hyc : y.cells = [y] := by
                cases y with
                | agg cs =>
                  exfalso
                  cases T <;> first | (simp [decLeaf] at hy; done) | (exact absurd rfl (hT _))
                | _ => rfl
              rw [hce, hyc] at c3
              simp only [List.length_cons, List.length_nil] at c3
              have ho : off = 0 := by omega
              obtain ⟨K', w', q1, q2, q3, q4⟩ := store_arr hE h hm hi (y' := y') ha hv hid c1 c2 (by rw [hce, hyc]; simpa using c3) (fun j u cl hj hcj => by
                rw [hce, hyc, ho] at hj
                rw [hcl] at hcj
                simp only [setCells, List.set_cons_zero] at hj
                cases j with
                | zero => simp at hj hcj; subst hj hcj; exact hy
                | succ j => simp at hj)
              exact ⟨rfl, K', w', q1, q2, q3, q4⟩
            cases T with
            | st n =>
              obtain ⟨y', hy, hx⟩ := opt_ofOpt_bind hx
              simp only [D.opt, Option.some.injEq, Prod.mk.injEq] at hx
              obtain ⟨rfl, rfl⟩ := hx
              obtain ⟨k1, k2⟩ := hE.back n (decLeaf m) _ _ hy
              obtain ⟨K', w', q1, q2, q3, q4⟩ := store_arr hE h hm hi (y' := y') ha hv hid c1 c2 c3 (fun j u cl hj hcj => k2 j u cl hj hcj)
              exact ⟨rfl, K', w', q1, q2, q3, q4⟩
            | bool => exact one .bool l xx (fun n q => by cases q) hm hi c3 hx
            | int k => exact one (.int k) l xx (fun n q => by cases q) hm hi c3 hx
            | str => exact one .str l xx (fun n q => by cases q) hm hi c3 hx
            | err => exact one .err l xx (fun n q => by cases q) hm hi c3 hx
            | fn => exact one .fn l xx (fun n q => by cases q) hm hi c3 hx
            | slice t => exact one (.slice t) l xx (fun n q => by cases q) hm hi c3 hx
          · simp [D.opt] at hx
      · simp [D.opt] at hx
    · simp [D.opt] at hx
  · simp [D.opt] at hx
theorem str_slice_res (h : RelM C K w B m) {st : TypeId} (hu : C.P.underlying st = some .string) {v : Value} {x : V S} {lo hi mx : Option Value} {lo' hi' mx' : Option (V S)} {y : V S}
    (hv : RepV C.E K w v x) (hx : (semStr x lo' hi' mx').opt = some y)
    (h1 : ∀ x, lo' = some x → ∃ v, lo = some v ∧ RepV C.E K w v x) (h1' : lo' = none → lo = none)
    (h2 : ∀ x, hi' = some x → ∃ v, hi = some v ∧ RepV C.E K w v x) (h2' : hi' = none → hi = none) (h3' : mx' = none → mx = none) :
    VRes C K w B ((Instr.sliceAt st v lo hi mx).run C.P w) y m := by
  have cut : ∀ (l : List UInt8) (a b : Int) (z : V S), (strCut (S := S) l a b).opt = some z → 0 ≤ a ∧ a ≤ b ∧ b ≤ (l.length : Int) ∧ z = .cell .str ((l.drop a.toNat).take (b.toNat - a.toNat)) := by
    intro l a b z hz
    unfold strCut at hz
    simp only [D.opt] at hz
    by_cases q : 0 ≤ a ∧ a ≤ b ∧ b ≤ (l.length : Int)
    · simp only [q, and_self, decide_true, cond_true, Option.some.injEq] at hz
      exact ⟨q.1, q.2.1, q.2.2, hz.symm⟩
    · simp [q] at hz
  have sz : ∀ l : List UInt8, (⟨l.toArray⟩ : ByteArray).size = l.length := fun l => by simp [ByteArray.size]
  have kA : ∀ l : List UInt8, (Instr.slice st (.string ⟨l.toArray⟩) none none none).run C.P w = .ok (.string ⟨l.toArray⟩) w := fun l => by
    rw [Go.run_slice_string_all w st _ hu, sz, ByteArray.extract_mk]; simp
  have kL : ∀ (l : List UInt8) (a : Int), 0 ≤ a → a ≤ (l.length : Int) → (Instr.slice st (.string ⟨l.toArray⟩) (some (.int .i64 a)) none none).run C.P w = .ok (.string ⟨((l.drop a.toNat).take ((l.length : Int).toNat - a.toNat)).toArray⟩) w := fun l a c1 c2 => by
    rw [Go.run_slice_string_l w st _ hu .i64 a c1 (by rw [sz]; exact c2), sz, ByteArray.extract_mk, Int.toNat_natCast]
  have kH : ∀ (l : List UInt8) (b : Int), 0 ≤ b → b ≤ (l.length : Int) → (Instr.slice st (.string ⟨l.toArray⟩) none (some (.int .i64 b)) none).run C.P w = .ok (.string ⟨((l.drop (0 : Int).toNat).take (b.toNat - (0 : Int).toNat)).toArray⟩) w := fun l b c1 c2 => by
    rw [Go.run_slice_string_h w st _ hu .i64 b c1 (by rw [sz]; exact c2), ByteArray.extract_mk]; rfl
  have kB : ∀ (l : List UInt8) (a b : Int), 0 ≤ a → a ≤ b → b ≤ (l.length : Int) → (Instr.slice st (.string ⟨l.toArray⟩) (some (.int .i64 a)) (some (.int .i64 b)) none).run C.P w = .ok (.string ⟨((l.drop a.toNat).take (b.toNat - a.toNat)).toArray⟩) w := fun l a b c1 c2 c3 => by
    rw [Go.run_slice_string w st _ .i64 .i64 a b hu c1 c2 (by rw [sz]; exact c3), ByteArray.extract_mk]
  unfold semStr at hx
  split at hx
  · rename_i l
    rw [str_of hv, h3' rfl, run_sliceAt_string w st _ _ _ _ hu]
    split at hx
    · simp only [D.opt, Option.some.injEq] at hx
      subst hx
      rw [h1' rfl, h2' rfl]
      exact VRes.pur h (kA l) (.cell (.str l))
    · rename_i a
      obtain ⟨c1, c2, c3, rfl⟩ := cut _ _ _ _ hx
      obtain ⟨u, e, r⟩ := h1 _ rfl
      rw [e, int_of r, h2' rfl]
      exact VRes.pur h (kL l a c1 c2) (.cell (.str _))
    · rename_i b
      obtain ⟨c1, c2, c3, rfl⟩ := cut _ _ _ _ hx
      obtain ⟨u, e, r⟩ := h2 _ rfl
      rw [e, int_of r, h1' rfl]
      exact VRes.pur h (kH l b c2 c3) (.cell (.str _))
    · rename_i a b
      obtain ⟨c1, c2, c3, rfl⟩ := cut _ _ _ _ hx
      obtain ⟨u, e, r⟩ := h1 _ rfl
      obtain ⟨u', e', r'⟩ := h2 _ rfl
      rw [e, e', int_of r, int_of r']
      exact VRes.pur h (kB l a b c1 c2 c3) (.cell (.str _))
    · simp [D.opt] at hx
  · simp [D.opt] at hx
theorem bytes_res (hE : EnvOK C.E) (h : RelM C K w B m) {src dst : TypeId} (hd : C.P.underlying dst = some .string) {v : Value} {x y : V S} {m' : Mem S} (hv : RepV C.E K w v x) (hx : (semBytes C m src x).opt = some (y, m')) :
    VRes C K w B ((convert src dst v).run C.P w) y m' := by
  unfold semBytes at hx
  split at hx
  · rename_i e hs
    split at hx
    · rename_i he
      obtain ⟨l, hl, hx⟩ := opt_ofOpt_bind hx
      simp only [D.opt, Option.some.injEq, Prod.mk.injEq] at hx
      obtain ⟨rfl, rfl⟩ := hx
      obtain ⟨K1, x1, s1, r1, f1⟩ := freeze h x.owns
      have hrep : Rep C.E K1.σ w v (.slice (.int .u8)) l := by
        refine decLeaf_rep r1 (hv.mono x1) (by rw [decLeaf_like (mark_like m _)]; exact hl) (fun id g q => ?_)
        subst q; exact f1
      have kN : ∀ (a : Option Addr) (cap : Nat), (convert src dst (.slice a 0 cap)).run C.P w = .ok (.string ⟨[].toArray⟩) w := by
        intro a cap
        cases a with
        | none => exact run_convert_bytes_nil w src e hs he 0 cap dst hd
        | some p => exact run_convert_bytes_back w src dst e p cap [] hs he hd (fun j hj => by simp at hj)
      have kS : ∀ (l : List Int) (b off cap : Nat), (∀ i (hi : i < l.length), w.cell? ⟨b, off + i, none⟩ = some (.int .u8 l[i])) → (convert src dst (.slice (some ⟨b, off, none⟩) l.length cap)).run C.P w = .ok (.string ⟨(strOf l).toArray⟩) w := by
        intro l b off cap hc
        refine run_convert_bytes_arg (P := C.P) w src e hs he b off l.length cap l rfl (fun i hi => ?_) dst hd
        rw [hc i hi]
        simp [List.getD, List.getElem?_eq_getElem hi]
      have key : (convert src dst v).run C.P w = .ok (.string ⟨(strOf l).toArray⟩) w := by
        cases hrep with
        | nil _ a cap => exact kN a cap
        | slice _ _ b off cap vs hcap hst hc hr =>
          refine kS l b off cap fun i hi => ?_
          have e1 := hc i (by have := hi; simp only [tsize, Nat.mul_one]; exact this)
          have e2 := hr i _ (List.getElem?_eq_getElem hi) 0 ⟨.int .u8, l[i]⟩ rfl
          simp only [tsize, Nat.mul_one, Nat.add_zero] at e2
          rw [e1]
          exact congrArg some e2.int_inv
      exact ⟨K1, w, _, key, x1, Below.refl B w, r1, .cell (.str _)⟩
    · simp [D.opt] at hx
  · simp [D.opt] at hx
theorem asCell_some {T : Ty} {v : V S} {x : den S T} (h : asCell T v = some x) : v = .cell T x := by
  unfold asCell at h
  split at h
  · split at h
    · rename_i e; subst e; cases h; rfl
    · cases h
  · cases h
theorem boxAll_res (hE : EnvOK C.E) (hT : TyOK C) (h : RelM C K w B m) {t : TypeId} {n : Nat} {e : TypeId} (hu : C.P.underlying t = some (.array n e)) {v : Value} {x y : V S} {m' : Mem S} (hv : RepV C.E K w v x) (hx : (semBoxAll C m n e x).opt = some (y, m')) :
    VRes C K w B ((Instr.sliceAt t v none none none).run C.P w) y m' := by
  unfold semBoxAll at hx
  split at hx
  · rename_i id
    split at hx
    · rename_i cs fz hm
      obtain ⟨T, hty, hx⟩ := opt_ofOpt_bind hx
      split at hx
      · rename_i hc
        obtain ⟨hc1, hc2⟩ := hc
        obtain ⟨l, hl, hx⟩ := opt_ofOpt_bind hx
        simp only [D.opt, Option.some.injEq, Prod.mk.injEq] at hx
        obtain ⟨rfl, rfl⟩ := hx
        obtain ⟨hll, hlg⟩ := allM_get _ _ hl
        simp only [List.length_map] at hll
        have hlt : id < m.length := (List.getElem?_eq_some_iff.1 hm).1
        have hin : id < K.n := h.n ▸ hlt
        obtain ⟨hg, hlive, c, te, p1, p2, p3, p4, p5⟩ := h.ob id _ hm
        let K' : Gh := { K with σ := fun b => if b = K.ι id then max (K.σ b) c.size else K.σ b }
        have hx' : Ext K w K' w := ⟨Nat.le_refl _, fun i _ => ⟨Nat.le_refl _, fun _ => ⟨rfl, rfl, rfl⟩⟩, fun b => by simp only [K']; split <;> omega, fun _ _ _ => rfl, fun _ _ _ q => keeps.of q, .inr rfl⟩
        have hr : RelM C K' w B (m.set id (.box cs true)) := by
          refine h.set hin hx' rfl (fun j _ _ => ⟨rfl, rfl, rfl, rfl, rfl⟩) (fun b => ?_) (fun k _ _ => rfl) (Nat.le_refl _) (fun _ => .inl ⟨hlive, rfl⟩) (fun b hb => ?_) ?_
          · by_cases q : b = K.ι id
            · cases fz with
              | false => exact .inr ⟨hlive, q, by rw [q]; exact (p4 rfl).2⟩
              | true => left; have := p5 rfl; simp only [K', q, if_true]; omega
            · left; simp only [K', q, if_false]
          · have : b ≠ K.ι id := by have := h.blk hin hlive; omega
            simp only [K', this, if_false]; exact h.new b hb
          · exact ⟨hg, hlive, c, te, p1, p2, fun j v x q1 q2 => (p3 j v x q1 q2).mono hx', fun q => (by cases q), fun _ => by simp only [K', if_true]; exact Nat.le_max_right _ _⟩
        obtain ⟨i, z, hi, hsz, hz, hzs, hpos, hby⟩ := hT e T hty
        have hcl : ∀ u : den S T, cellsOf C.E T u = [⟨T, u⟩] ∨ ∃ q, T = .st q := by intro u; cases T <;> first | exact .inl rfl | exact .inr ⟨_, rfl⟩
        cases hv with
        | ptr _ _ _ hn hp hh =>
          rw [hh hg]
          have harr : C.P.arrayLen t = n := by simp [Program.arrayLen, hu]
          have helm : C.P.elem t = e := by simp [Program.elem, hu]
          have hrun : (Instr.sliceAt t (.pointer (some ⟨K.ι id, 0, none⟩)) none none none).run C.P w = .ok (.slice (some ⟨K.ι id, 0, none⟩) l.length l.length) w := by
            rw [run_sliceAt_array_all w t _ (by rw [harr, helm]; exact hu), harr, helm, run_sizeOf (hT.size hty)]
            simp only [Result.andThen_ok, slicedAt]
            have : l.length = n := by rw [hll, hc1]
            rw [this]
            by_cases q : n = 0
            · subst q; simp
            · rw [if_neg q]; simp [add_lit]
          refine ⟨K', w, _, hrun, hx', Below.refl B w, hr, .full (.slice T l (K.ι id) 0 l.length (fun j => c.getD j Go.undef) (Nat.le_refl _) ?_ (fun j hj => ?_) (fun k x hk j cl hj => ?_))⟩
          · rw [hc2]; simp only [K', if_true]; omega
          · rw [hc2, Nat.mul_one] at hj
            have hjc : j < c.size := by omega
            simp [World.cell?, p1, Array.getD, hjc]
          · rw [hc2, Nat.mul_one]
            have hkl := (List.getElem?_eq_some_iff.1 hk).1
            have hk2 := hlg k x hk
            rw [List.getElem?_map, List.getElem?_eq_getElem (by omega)] at hk2
            simp only [Option.map_some, Option.some.injEq] at hk2
            have hcs := asCell_some hk2
            have hkc : k < c.size := by omega
            have hrp := p3 k c[k] cs[k] (by simp [hkc]) (by simp)
            rw [hcs] at hrp
            have hone : j = 0 ∧ cl = ⟨T, x⟩ := by
              rcases hcl x with q | ⟨q, rfl⟩
              · rw [q] at hj
                cases j with
                | zero => simp at hj; exact ⟨rfl, hj.symm⟩
                | succ j => simp at hj
              · exfalso
                exact (cell_inv hrp).st_inv
            obtain ⟨rfl, rfl⟩ := hone
            have : c.getD (k + 0) Go.undef = c[k] := by simp [Array.getD, hkc]
            rw [this]
            exact (cell_inv hrp).mono hx'.σ hx'.cell
      · simp [D.opt] at hx
    · simp [D.opt] at hx
  · simp [D.opt] at hx
theorem callMethod_ifc {t : TypeId} {nm : String} {f : FuncId} (h : mthOf C t nm = some f) (args : Array Value) : (callMethod (.iface t (.agg #[])) nm args).run C.P w = (callFunc f (#[Value.agg #[]] ++ args)).run C.P w := by
  unfold mthOf at h
  split at h
  · rename_i i hi
    split at h
    · rename_i r hr
      split at h
      · rename_i fs hp hfn hu
        cases h
        have hm : ∀ k, (method (k + 1) t (.agg #[]) nm).run C.P w = .ok (f, .agg #[]) w := by
          intro k
          simp [method, typeInfo, hi, hr, hp, hfn, follow, receiverAt, run_underlying hu, Place.get]
        obtain ⟨k, hk⟩ : ∃ k, C.P.types.size + Made.depth = k + 1 := ⟨C.P.types.size + Made.depth - 1, by
          have : 0 < Made.depth := by decide
          omega⟩
        simp only [callMethod, Sem.run_bind, run_program, Result.andThen_ok, hk, hm]
      · cases h
    · cases h
  · cases h
theorem lenOk_inv {t : TypeId} {x : V S} (h : lenOk C t x = true) : ((∃ e, C.P.underlying t = some (.slice e)) ∨ C.P.underlying t = some .string) ∧ (C.P.underlying t = some .string ↔ ∃ l, x = .cell .str l) := by
  unfold lenOk at h
  cases hu : C.P.underlying t with
  | none => rw [hu] at h; cases h
  | some d =>
    rw [hu] at h
    cases d with
    | string =>
      cases x with
      | cell t' l => cases t' <;> first | exact ⟨.inr rfl, fun _ => ⟨l, rfl⟩, fun _ => rfl⟩ | cases h
      | _ => cases h
    | slice e =>
      refine ⟨.inl ⟨e, rfl⟩, ⟨fun q => (by cases q), ?_⟩⟩
      rintro ⟨l, q⟩
      subst q; cases h
    | _ => cases h
theorem args_two {α β : Type} {xs : Array α} {a b : α} (h : xs.toList = [a, b]) (f : α → β) : xs.map f = #[f a, f b] := by
  apply Array.ext'; simp [h]
theorem args_one {α β : Type} {xs : Array α} {a : α} (h : xs.toList = [a]) (f : α → β) : xs.map f = #[f a] := by
  apply Array.ext'; simp [h]
theorem arr_two {α : Type} {xs : Array α} {a b : α} (h : xs.toList = [a, b]) : xs = #[a, b] := by apply Array.ext'; simp [h]
theorem arr_one {α : Type} {xs : Array α} {a : α} (h : xs.toList = [a]) : xs = #[a] := by apply Array.ext'; simp [h]
/-- An operation's run comes to what is told of it. -/
theorem semOp_ok (hE : EnvOK C.E) (hT : TyOK C) (hS : ∀ f sp, C.spec f = some sp → SpecOK C f sp) {cl : Cl S} (hC : ClOK C cl) (h : RelM C K w B m) {a : Act} {ev : Operand → V S} (hev : ∀ x, RepV C.E K w (a.eval x) (ev x)) (o : Oper) {y : V S} {m' : Mem S}
    (hx : (semOp C cl m ev o).opt = some (y, m')) : OpRes C K w B ((execOp a.eval o).run C.P w) y m' := by
  unfold semOp at hx
  unfold execOp
  cases hop : o.op with
  | move x =>
    simp only [hop, D.opt, Option.some.injEq, Prod.mk.injEq] at hx ⊢
    obtain ⟨rfl, rfl⟩ := hx
    exact OpRes.pur h rfl (hev x)
  | assign x =>
    simp only [hop, D.opt, Option.some.injEq, Prod.mk.injEq] at hx ⊢
    obtain ⟨rfl, rfl⟩ := hx
    exact OpRes.pur h rfl (hev x)
  | pick c p q =>
    simp only [hop] at hx ⊢
    split at hx
    · rename_i t hc
      have hb : a.eval c = .bool t := bool_of (by rw [← hc]; exact hev c)
      rcases split_some hx with ⟨rfl, e⟩ | ⟨rfl, e⟩ <;> (simp only [D.opt, Option.some.injEq, Prod.mk.injEq] at e; obtain ⟨rfl, rfl⟩ := e)
      · exact OpRes.pur h (v := a.eval p) (by simp [hb, asBool]) (hev p)
      · exact OpRes.pur h (v := a.eval q) (by simp [hb, asBool]) (hev q)
    · simp [D.opt] at hx
  | alloc t =>
    simp only [hop] at hx ⊢
    obtain ⟨z, hz, hx⟩ := opt_ofOpt_bind hx
    simp only [D.opt, Option.some.injEq, Prod.mk.injEq] at hx
    obtain ⟨rfl, rfl⟩ := hx
    exact (alloc_res h hz).val
  | box t x =>
    simp only [hop] at hx ⊢
    split at hx
    · rename_i hd
      simp only [D.opt, Option.some.injEq, Prod.mk.injEq] at hx
      obtain ⟨rfl, rfl⟩ := hx
      exact (box_res h (hev x) hd).val
    · simp [D.opt] at hx
  | build t parts =>
    simp only [hop] at hx ⊢
    obtain ⟨u, hu, e⟩ := opt_bind_ret hx
    simp only [Prod.mk.injEq] at e
    obtain ⟨rfl, rfl⟩ := e
    refine (build_res h (by simp) (fun j p q hp hq => ?_) hu).val
    simp only [Array.toList_map, List.getElem?_map] at hp hq
    cases hj : parts.toList[j]? with
    | none => rw [hj] at hp; simp at hp
    | some p0 =>
      rw [hj] at hp hq
      simp only [Option.map_some, Option.some.injEq] at hp hq
      subst hp hq
      exact ⟨rfl, hev _⟩
  | buildSlice t len parts =>
    simp only [hop] at hx ⊢
    refine (buildSlice_res hE hT h (by simp) (fun j p q hp hq => ?_) hx).val
    simp only [Array.toList_map, List.getElem?_map] at hp hq
    cases hj : parts.toList[j]? with
    | none => rw [hj] at hp; simp at hp
    | some p0 =>
      rw [hj] at hp hq
      simp only [Option.map_some, Option.some.injEq] at hp hq
      subst hp hq
      exact ⟨rfl, hev _⟩
  | load t x =>
    simp only [hop] at hx ⊢
    obtain ⟨rfl, q⟩ := load_res hE h (hev x) hx
    exact q.val
  | store t x v =>
    simp only [hop] at hx ⊢
    obtain ⟨rfl, K', w', q1, q2, q3, q4⟩ := store_res hE h (hev x) (hev v) hx
    exact .inl ⟨K', w', Go.undef, .inr ⟨by simp [q1], rfl⟩, q2, q3, q4, .undef _⟩
  | nilCheck x =>
    simp only [hop] at hx ⊢
    have hv := hev x
    split at hx <;> simp only [D.opt, Option.some.injEq, Prod.mk.injEq, reduceCtorEq] at hx
    · rename_i id off he
      obtain ⟨rfl, rfl⟩ := hx
      rw [he] at hv
      obtain ⟨ad, e⟩ : ∃ ad, a.eval x = .pointer (some ad) := by generalize a.eval x = u at hv; cases hv with | ptr _ _ _ _ hp _ => exact hp
      rw [e] at hv ⊢
      exact OpRes.pur h rfl hv
    · rename_i id g i off he
      obtain ⟨rfl, rfl⟩ := hx
      rw [he] at hv
      obtain ⟨ad, e⟩ : ∃ ad, a.eval x = .pointer (some ad) := by generalize a.eval x = u at hv; cases hv with | eptr _ _ _ _ _ _ _ hp _ => exact hp
      rw [e] at hv ⊢
      exact OpRes.pur h rfl hv
    · rename_i cs he
      obtain ⟨rfl, rfl⟩ := hx
      rw [he] at hv
      obtain ⟨b, off, e⟩ := ro_pointer hv
      rw [e] at hv ⊢
      exact OpRes.pur h rfl hv
    · rename_i f a' b' he
      obtain ⟨rfl, rfl⟩ := hx
      rw [he] at hv
      obtain ⟨f1, f2, e⟩ : ∃ f1 f2, a.eval x = .func (.func f) f1 f2 := by generalize a.eval x = u at hv; cases hv; exact ⟨_, _, rfl⟩
      rw [e] at hv ⊢
      exact OpRes.pur h rfl hv
  | binOp op t x z t' =>
    simp only [hop] at hx ⊢
    obtain ⟨u, hu, e⟩ := opt_bind_ret hx
    simp only [Prod.mk.injEq] at e
    obtain ⟨rfl, rfl⟩ := e
    obtain ⟨r, r1, r2⟩ := bin_run op t x z (a.eval x) (a.eval z) _ _ u (hev x) (hev z) _ (by intro hy; cases z <;> first | exact ⟨_, rfl⟩ | cases hy) hu
    exact (VRes.pur h r1 r2).val
  | unOp op t x =>
    simp only [hop] at hx ⊢
    obtain ⟨u, hu, e⟩ := opt_bind_ret hx
    simp only [Prod.mk.injEq] at e
    obtain ⟨rfl, rfl⟩ := e
    exact (unary_res h (hev x) hu).val
  | convert src dst x =>
    simp only [hop] at hx ⊢
    split at hx
    · rename_i k k' n hd he
      split at hx
      · rename_i hs
        simp only [D.opt, Option.some.injEq, Prod.mk.injEq] at hx
        obtain ⟨rfl, rfl⟩ := hx
        exact (convert_res h hs hd (by rw [← he]; exact hev x)).val
      · simp [D.opt] at hx
    · rename_i hd
      exact (bytes_res hE h hd (hev x) hx).val
    · simp [D.opt] at hx
  | makeFunc fn first caps =>
    simp only [hop] at hx ⊢
    cases fn with
    | func f =>
      simp only [D.opt, Option.some.injEq, Prod.mk.injEq] at hx
      obtain ⟨rfl, rfl⟩ := hx
      refine (VRes.pur h (v := .func (.func f) (first.map a.eval) (caps.map a.eval)) rfl (.clo f _ _ _ _ (by simp) (by simp) (fun j c v hc hv => ?_) (fun j c v hc hv => ?_))).val
      · simp only [Array.getElem?_map, List.getElem?_map, Array.getElem?_toList] at hc hv
        cases hj : first[j]? with
        | none => rw [hj] at hc; simp at hc
        | some p0 => rw [hj] at hc hv; simp only [Option.map_some, Option.some.injEq] at hc hv; subst hc hv; exact hev _
      · simp only [Array.getElem?_map, List.getElem?_map, Array.getElem?_toList] at hc hv
        cases hj : caps[j]? with
        | none => rw [hj] at hc; simp at hc
        | some p0 => rw [hj] at hc hv; simp only [Option.map_some, Option.some.injEq] at hc hv; subst hc hv; exact hev _
    | _ => simp [D.opt] at hx
  | makeSlice t len cap =>
    simp only [hop] at hx ⊢
    exact (make_res hE hT h (hev len) (hev cap) hx).val
  | slice t x lo hi mx =>
    simp only [hop] at hx ⊢
    split at hx
    · rename_i e hu
      obtain ⟨T, hty, hx⟩ := opt_ofOpt_bind hx
      have hm : ∀ (z : Option Operand) (u : V S), z.map ev = some u → ∃ v, z.map a.eval = some v ∧ RepV C.E K w v u := by
        intro z u hz
        cases z with
        | none => cases hz
        | some z => simp only [Option.map_some, Option.some.injEq] at hz; subst hz; exact ⟨_, rfl, hev z⟩
      have hn : ∀ (z : Option Operand), z.map ev = none → z.map a.eval = none := by
        intro z hz; cases z <;> simp at hz ⊢
      exact (slice_res hT h hu hty (hev x) hx (hm lo) (hn lo) (hm hi) (hn hi) (hm mx) (hn mx)).val
    · rename_i hu
      obtain ⟨u, hu', e⟩ := opt_bind_ret hx
      simp only [Prod.mk.injEq] at e
      obtain ⟨rfl, rfl⟩ := e
      have hm : ∀ (z : Option Operand) (u : V S), z.map ev = some u → ∃ v, z.map a.eval = some v ∧ RepV C.E K w v u := by
        intro z u hz
        cases z with
        | none => cases hz
        | some z => simp only [Option.map_some, Option.some.injEq] at hz; subst hz; exact ⟨_, rfl, hev z⟩
      have hn : ∀ (z : Option Operand), z.map ev = none → z.map a.eval = none := by
        intro z hz; cases z <;> simp at hz ⊢
      exact (str_slice_res h hu (hev x) hu' (hm lo) (hn lo) (hm hi) (hn hi) (hn mx)).val
    · rename_i n e hu
      split at hx
      · exact (boxAll_res hE hT h hu (hev x) hx).val
      · simp [D.opt] at hx
    · simp [D.opt] at hx
  | fieldAddr s x f =>
    simp only [hop] at hx ⊢
    obtain ⟨p, hp, hx⟩ := opt_ofOpt_bind hx
    obtain ⟨u, hu, e⟩ := opt_bind_ret hx
    simp only [Prod.mk.injEq] at e
    obtain ⟨rfl, rfl⟩ := e
    exact (fieldAddr_res h hp (hev x) hu).val
  | field s x f =>
    simp only [hop] at hx ⊢
    obtain ⟨p, hp, hx⟩ := opt_ofOpt_bind hx
    obtain ⟨u, hu, e⟩ := opt_bind_ret hx
    simp only [Prod.mk.injEq] at e
    obtain ⟨rfl, rfl⟩ := e
    exact (field_res h hp (hev x) hu).val
  | indexAddr t x i =>
    simp only [hop] at hx ⊢
    obtain ⟨rfl, q⟩ := indexAddr_res hE hT h (hev x) (hev i) hx
    exact q.val
  | index t x i =>
    simp only [hop] at hx ⊢
    obtain ⟨u, hu, e⟩ := opt_bind_ret hx
    simp only [Prod.mk.injEq] at e
    obtain ⟨rfl, rfl⟩ := e
    exact (index_res h (hev x) (hev i) hu).val
  | lookup t x i ok =>
    simp only [hop] at hx ⊢
    cases ok with
    | true =>
      simp only at hx
      split at hx
      · rename_i hmz
        obtain ⟨hmi, hz⟩ := hmz
        split at hx
        · rename_i es n h1 h2
          obtain ⟨u, hu, e⟩ := opt_bind_ret hx
          simp only [Prod.mk.injEq] at e
          obtain ⟨rfl, rfl⟩ := e
          unfold mapInt at hmi
          split at hmi
          · rename_i kt et hut
            split at hmi
            · rename_i k hk
              exact (lookupOk_res h hut hk hz (by rw [← h1]; exact hev x) (by rw [← h2]; exact hev i) hu).val
            · cases hmi
          · cases hmi
        · simp [D.opt] at hx
      · simp [D.opt] at hx
    | false =>
      simp only at hx
      split at hx
      · rename_i hmi
        split at hx
        · rename_i es n h1 h2
          obtain ⟨u, hu, e⟩ := opt_bind_ret hx
          simp only [Prod.mk.injEq] at e
          obtain ⟨rfl, rfl⟩ := e
          unfold mapInt at hmi
          split at hmi
          · rename_i kt et hut
            split at hmi
            · rename_i k hk
              exact (lookup_res h hut hk (by rw [← h1]; exact hev x) (by rw [← h2]; exact hev i) hu).val
            · cases hmi
          · cases hmi
        · rename_i id q n h1 h2
          obtain ⟨u, hu, e⟩ := opt_bind_ret hx
          simp only [Prod.mk.injEq] at e
          obtain ⟨rfl, rfl⟩ := e
          exact (mapGet_res h (by rw [← h1]; exact hev x) (by rw [← h2]; exact hev i) hu).val
        · simp [D.opt] at hx
      · simp [D.opt] at hx
  | extract t i =>
    simp only [hop] at hx ⊢
    have hv := hev t
    split at hx
    · rename_i vs he
      obtain ⟨u, hu, hx⟩ := opt_ofOpt_bind hx
      simp only [D.opt, Option.some.injEq, Prod.mk.injEq] at hx
      obtain ⟨rfl, rfl⟩ := hx
      rw [he] at hv
      generalize a.eval t = tv at hv
      cases hv with
      | tup cs _ hs hj =>
        have hlt : i < cs.size := by rw [hs]; exact (List.getElem?_eq_some_iff.1 hu).1
        exact (VRes.pur h (v := cs[i]) (by simp [Instr.extract, hlt]) (hj i _ _ (by simp [hlt]) hu)).val
    · simp [D.opt] at hx
  | call c =>
    simp only [hop] at hx ⊢
    cases hcl : c.callee with
    | builtin b =>
      simp only [hcl] at hx
      have hrun : ∀ (s : Sem Value), (∀ cs, builtin b c.argTypes o.type cs (c.args.map a.eval) = (do pure (.value (← s)) : Sem Next)) →
          ((do let d ← resolve a.eval c o.type; invoke d.target d.args : Sem Next)).run C.P w = ((do pure (.value (← s)) : Sem Next)).run C.P w := by
        intro s hs
        simp only [resolve, hcl, Sem.run_bind, Sem.run_pure, Result.andThen_ok, invoke]
        rw [hs]
        simp only [Sem.run_bind, Sem.run_pure]
      cases b with
      | len =>
        simp only at hx
        split at hx
        · rename_i x t h1 h2
          split at hx
          · rename_i hok
            obtain ⟨u, hu, e⟩ := opt_bind_ret hx
            simp only [Prod.mk.injEq] at e
            obtain ⟨rfl, rfl⟩ := e
            rw [hrun _ (fun _ => rfl), args_one h1, arr_one h2]
            obtain ⟨l1, l2⟩ := lenOk_inv hok
            exact (len_res hE h (t := t) l1 (hev x) hu l2).val
          · simp [D.opt] at hx
        · simp [D.opt] at hx
      | append =>
        simp only at hx
        split at hx
        · rename_i s x t t' h1 h2
          split at hx
          · rename_i e hu
            split at hx
            · rename_i ett
              subst ett
              obtain ⟨T, hty, hx⟩ := opt_ofOpt_bind hx
              rw [hrun _ (fun _ => rfl), args_two h1, arr_two h2]
              exact (append_res hE hT h hu hty (hev s) (hev x) hx).val
            · simp [D.opt] at hx
          · simp [D.opt] at hx
        · simp [D.opt] at hx
      | copy =>
        simp only at hx
        split at hx
        · rename_i s x t t' h1 h2
          split at hx
          · rename_i e hu
            obtain ⟨T, hty, hx⟩ := opt_ofOpt_bind hx
            split at hx
            · rename_i hts
              rw [hrun _ (fun _ => rfl), args_two h1, arr_two h2]
              exact (copy_res hE hT h hu hty hts (hev s) (hev x) hx).val
            · simp [D.opt] at hx
          · simp [D.opt] at hx
        · simp [D.opt] at hx
      | min =>
        simp only at hx
        obtain ⟨u, hu, e⟩ := opt_bind_ret hx
        simp only [Prod.mk.injEq] at e
        obtain ⟨rfl, rfl⟩ := e
        obtain ⟨v0, rest, r, q1, q2, q3⟩ := minMax_res (C := C) (K := K) (w := w) (vs := (c.args.map a.eval).toList) (by simp) (fun j v x hv hx => by
          simp only [Array.toList_map, List.getElem?_map] at hv hx
          cases hj : c.args.toList[j]? with
          | none => rw [hj] at hv; simp at hv
          | some p0 => rw [hj] at hv hx; simp only [Option.map_some, Option.some.injEq] at hv hx; subst hv hx; exact hev _) hu
        rw [hrun _ (fun _ => rfl)]
        refine (VRes.pur h (v := r) ?_ q3).val
        simp only [Builtin.min_, q1]
        exact q2
      | max =>
        simp only at hx
        obtain ⟨u, hu, e⟩ := opt_bind_ret hx
        simp only [Prod.mk.injEq] at e
        obtain ⟨rfl, rfl⟩ := e
        obtain ⟨v0, rest, r, q1, q2, q3⟩ := minMax_res (C := C) (K := K) (w := w) (vs := (c.args.map a.eval).toList) (by simp) (fun j v x hv hx => by
          simp only [Array.toList_map, List.getElem?_map] at hv hx
          cases hj : c.args.toList[j]? with
          | none => rw [hj] at hv; simp at hv
          | some p0 => rw [hj] at hv hx; simp only [Option.map_some, Option.some.injEq] at hv hx; subst hv hx; exact hev _) hu
        rw [hrun _ (fun _ => rfl)]
        refine (VRes.pur h (v := r) ?_ q3).val
        simp only [Builtin.max_, q1]
        exact q2
      | _ => simp [D.opt] at hx
    | value f =>
      simp only [hcl] at hx
      split at hx
      · rename_i g first caps he
        have hv := hev f
        rw [he] at hv
        obtain ⟨f1, f2, e, s1, s2, r1, r2⟩ : ∃ f1 f2 : Array Value, a.eval f = .func (.func g) f1 f2 ∧ f1.size = first.length ∧ f2.size = caps.length ∧
            (∀ (j : Nat) (c : Value) (v : V S), f1[j]? = some c → first[j]? = some v → RepV C.E K w c v) ∧ (∀ (j : Nat) (c : Value) (v : V S), f2[j]? = some c → caps[j]? = some v → RepV C.E K w c v) := by
          generalize a.eval f = u at hv
          cases hv with
          | clo _ p q _ _ h1 h2 h3 h4 => exact ⟨p, q, rfl, h1, h2, h3, h4⟩
        have hargs : ∀ (j : Nat) (v : Value) (y : V S), (f1 ++ c.args.map a.eval ++ f2)[j]? = some v → (first ++ c.args.toList.map ev ++ caps)[j]? = some y → RepV C.E K w v y := by
          intro j v y hv hy
          by_cases q1 : j < f1.size
          · rw [Array.append_assoc, Array.getElem?_append_left q1] at hv
            rw [List.append_assoc, List.getElem?_append_left (by rw [← s1]; exact q1)] at hy
            exact r1 j v y hv hy
          · by_cases q2 : j < f1.size + c.args.size
            · rw [Array.append_assoc, Array.getElem?_append_right (by omega), Array.getElem?_append_left (by simp; omega)] at hv
              rw [List.append_assoc, List.getElem?_append_right (by rw [← s1]; omega), List.getElem?_append_left (by simp; omega)] at hy
              rw [← s1] at hy
              simp only [Array.getElem?_map, List.getElem?_map, Array.getElem?_toList] at hv hy
              cases hj : c.args[j - f1.size]? with
              | none => rw [hj] at hv; simp at hv
              | some p0 => rw [hj] at hv hy; simp only [Option.map_some, Option.some.injEq] at hv hy; subst hv hy; exact hev _
            · rw [Array.getElem?_append_right (by simp; omega)] at hv
              rw [List.getElem?_append_right (by simp; omega)] at hy
              simp only [Array.size_append, Array.size_map, List.length_append, List.length_map, Array.length_toList, ← s1] at hv hy
              exact r2 _ v y hv hy
        obtain ⟨hen, hcall⟩ := callFn_res hE hS hC h (vs := f1 ++ c.args.map a.eval ++ f2) (by simp [s1, s2]) hargs hx
        refine .inr ⟨g, f1 ++ c.args.map a.eval ++ f2, ?_, hcall⟩
        simp only [resolve, hcl, e, Deferred.ofValue, Sem.run_bind, Sem.run_pure, Result.andThen_ok, invoke]
        exact hen.run _ _
      · simp [D.opt] at hx
    | invoke r n =>
      simp only [hcl] at hx
      split at hx
      · rename_i t hr
        split at hx
        · rename_i f hf
          have e : a.eval r = .iface t (.agg #[]) := by
            have := hev r
            rw [hr] at this
            generalize a.eval r = u at this
            cases this; rfl
          have hargs : ∀ (j : Nat) (v : Value) (y : V S), (#[Value.agg #[]] ++ c.args.map a.eval)[j]? = some v → (V.agg [] :: c.args.toList.map ev)[j]? = some y → RepV C.E K w v y := by
            intro j v y hv hy
            cases j with
            | zero =>
              have h0 : (#[Value.agg #[]] ++ c.args.map a.eval)[0]? = some (Value.agg #[]) := by rw [Array.getElem?_append_left (by simp)]; rfl
              rw [h0] at hv
              cases hv
              cases hy
              exact .agg #[] [] rfl fun j c v hc => by simp at hc
            | succ j =>
              rw [Array.getElem?_append_right (by simp)] at hv
              simp only [List.size_toArray, List.length_singleton, Nat.add_sub_cancel, Array.getElem?_map, List.getElem?_cons_succ, List.getElem?_map, Array.getElem?_toList] at hv hy
              cases hj : c.args[j]? with
              | none => rw [hj] at hv; simp at hv
              | some p0 =>
                rw [hj] at hv hy
                simp only [Option.map_some, Option.some.injEq] at hv hy
                subst hv hy
                exact hev _
          obtain ⟨hen, hcall⟩ := callFn_res hE hS hC h (vs := #[Value.agg #[]] ++ c.args.map a.eval) (by rw [Array.size_append, Array.size_map, List.length_cons, List.length_map, Array.length_toList]; show 1 + _ = _; omega) hargs hx
          refine .inr ⟨f, #[Value.agg #[]] ++ c.args.map a.eval, ?_, hcall⟩
          simp only [resolve, hcl, e, Sem.run_bind, Sem.run_pure, Result.andThen_ok, invoke]
          have hx0 : (#[Value.iface t (.agg #[])] ++ c.args.map a.eval)[0]? = some (Value.iface t (.agg #[])) := by rw [Array.getElem?_append_left (by simp)]; rfl
          have hx1 : (#[Value.iface t (.agg #[])] ++ c.args.map a.eval).extract 1 (#[Value.iface t (.agg #[])] ++ c.args.map a.eval).size = c.args.map a.eval := by
            apply Array.ext'
            simp
            try exact List.take_of_length_le (by simp)
          simp only [hx0, hx1]
          rw [callMethod_ifc hf]
          exact hen.run _ _
        · simp [D.opt] at hx
      · simp [D.opt] at hx
  | makeMap t r =>
    simp only [hop] at hx ⊢
    cases r with
    | some r => simp [D.opt] at hx
    | none =>
      simp only at hx
      split at hx
      · rename_i k hk
        simp only [D.opt, Option.some.injEq, Prod.mk.injEq] at hx
        obtain ⟨rfl, rfl⟩ := hx
        exact (makeMap_res h hk).val
      · simp [D.opt] at hx
  | mapUpdate t x i v =>
    simp only [hop] at hx ⊢
    obtain ⟨rfl, K', w', q1, q2, q3, q4⟩ := mapPut_res h (hev x) (hev i) (hev v) hx
    exact .inl ⟨K', w', Go.undef, .inr ⟨by simp [q1], rfl⟩, q2, q3, q4, .undef _⟩
  | _ => simp [hop, D.opt] at hx
end
end Go.Lv
