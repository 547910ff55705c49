import Derived.Test.YtonphdpgepnenaaDoorLvList
namespace Go.Lv
set_option linter.all false
open Go Go.RowKit
variable {S : Nat → Type}

section
variable {C : Ctx S} {K : Gh} {w : World} {B : Nat} {m : Mem S}

theorem below_alloc (h : RelM C K w B m) (o : Obj) : Below B w (w.alloc o) := (Below.refl B w).alloc h.base o

theorem heap_old {o : Obj} (k : Nat) (hk : k < w.heap.size) : (w.alloc o).heap[k]? = w.heap[k]? := Below.heap_alloc w o k hk
theorem heap_new {o : Obj} : (w.alloc o).heap[w.heap.size]? = some o := by show (w.heap.push o)[w.heap.size]? = some o; simp

/-- A new variable. -/
theorem newBox (h : RelM C K w B m) {c : Array Value} {vs : List (V S)} (e : TypeId) (hs : c.size = vs.length)
    (hj : ∀ (j : Nat) (v : Value) (x : V S), c[j]? = some v → vs[j]? = some x → RepV C.E K w v x) :
    ∃ K', Ext K w K' (w.alloc (.cells c e)) ∧ Below B w (w.alloc (.cells c e)) ∧ RelM C K' (w.alloc (.cells c e)) B (m ++ [.box vs false]) ∧
      RepV C.E K' (w.alloc (.cells c e)) (.pointer (some ⟨w.heap.size, 0, none⟩)) (.ptr m.length 0) := by
  have hx : Ext K w (K.push w.heap.size .nilIface 0 true) (w.alloc (.cells c e)) := by
    refine Gh.push_ext _ _ _ _ (fun b o ho => ?_) (fun b ob h0 he => ?_)
    · rcases Nat.lt_or_ge b w.heap.size with q | q
      · exact World.cell?_of_block (heap_old b q)
      · rw [h.new b q] at ho; omega
    · rcases Nat.lt_or_ge b w.heap.size with q | q
      · rw [heap_old b q]; exact keeps.of he
      · rw [h.new b q] at h0; omega
  have ho : ObjOK C.E (K.push w.heap.size .nilIface 0 true) (w.alloc (.cells c e)) B K.n (.box vs false) := by
    refine ⟨by simp [Gh.push], by simp [Gh.push], c, e, by simp only [Gh.push, if_true]; exact heap_new, hs, fun j v x p q => (hj j v x p q).mono hx, fun _ => ?_, ?_⟩
    · simp only [Gh.push, if_true]; exact h.new _ (Nat.le_refl _)
    · simp only [Gh.push, if_true]; exact h.base
  obtain ⟨hr, hx'⟩ := h.push (w' := w.alloc (.cells c e)) (by simp) (fun k hk => heap_old k hk) (fun _ => Nat.le_refl _) ho
  refine ⟨_, hx', below_alloc h _, hr, .ptr _ _ _ ?_ ⟨_, rfl⟩ fun _ => ?_⟩
  · simp only [Gh.push, h.n]; omega
  · simp [Gh.push, h.n]

theorem box_res (h : RelM C K w B m) {t : TypeId} {v : Value} {x : V S} (hv : RepV C.E K w v x) (hd : x.defd = true) :
    VRes C K w B ((Instr.box t v).run C.P w) (.ptr m.length 0) (m ++ [.box x.cells false]) := by
  obtain ⟨a, b⟩ := hv.cells hd
  obtain ⟨K', x1, b1, r1, p1⟩ := newBox h t a b
  exact ⟨K', _, _, by simp [Instr.box, newVar, newRow], x1, b1, r1, p1⟩

theorem zero_cells (z : Value) : z.cells.size = (ofConst z : V S).cells.length ∧ ∀ (j : Nat) (c : Value) (x : V S), z.cells[j]? = some c → (ofConst z : V S).cells[j]? = some x → RepV C.E K w c x := by
  have hr := ofConst_rep C.E K w z
  cases hd : (ofConst z : V S).defd with
  | true => exact hr.cells hd
  | false =>
    have one : ∀ {v : Value}, v.cells = #[v] → (ofConst v : V S) = .undef → v.cells.size = (ofConst v : V S).cells.length ∧ ∀ (j : Nat) (c : Value) (x : V S), v.cells[j]? = some c → (ofConst v : V S).cells[j]? = some x → RepV C.E K w c x := by
      intro v h1 h2
      rw [h1, h2]
      refine ⟨rfl, fun j c x hc hx => ?_⟩
      cases j with
      | zero => simp [V.cells] at hx; subst hx; exact .undef _
      | succ j => simp at hc
    unfold ofConst at hd
    split at hd <;> first | (simp [V.defd] at hd; done) | skip
    rename_i h1 h2 h3 h4 h5 h6
    refine one ?_ ?_
    · cases z <;> first | rfl | (exact absurd rfl (h6 _))
    · unfold ofConst
      split <;> first | rfl | simp_all

theorem alloc_res (h : RelM C K w B m) {t : TypeId} {z : Value} (hz : (C.P.info? t).bind (·.zero) = some z) :
    VRes C K w B ((Instr.alloc t true (.tuple #[])).run C.P w) (.ptr m.length 0) (m ++ [.box (ofConst z : V S).cells false]) := by
  obtain ⟨a, b⟩ := zero_cells (C := C) (K := K) (w := w) z
  obtain ⟨K', x1, b1, r1, p1⟩ := newBox h t a b
  cases hi : C.P.info? t with
  | none => rw [hi] at hz; cases hz
  | some i =>
    rw [hi] at hz
    simp only [Option.bind_some] at hz
    exact ⟨K', _, _, by simp [Instr.alloc, zeroValue, typeInfo, hi, hz, newVar, newRow], x1, b1, r1, p1⟩

/-- A new own array. -/
theorem newArr (hE : EnvOK C.E) (h : RelM C K w B m) {w' : World} {e : TypeId} {T : Ty} {l : List (den S T)} {c : Array Value} {cap : Nat} (hcap : l.length ≤ cap) (hmax : cap ≤ maxLen) (hs : c.size = cap * tsize C.E T)
    (hw : w' = w.alloc (.cells c e) ∨ w' = w.drew.alloc (.cells c e))
    (hc : ∀ (i : Nat) (x : den S T), l[i]? = some x → ∀ (j : Nat) (cl : Cell S), (cellsOf C.E T x)[j]? = some cl → ∃ v, c[i * tsize C.E T + j]? = some v ∧ Rep C.E K.σ w v cl.t cl.x) :
    ∃ K', Ext K w K' w' ∧ Below B w w' ∧ RelM C K' w' B (m ++ [.arr e T l 0 false]) ∧ RepV C.E K' w' (.slice (some ⟨w.heap.size, 0, none⟩) l.length cap) (.own m.length 0) := by
  have hold : ∀ k, k < w.heap.size → w'.heap[k]? = w.heap[k]? := by
    intro k hk; rcases hw with rfl | rfl
    · exact heap_old k hk
    · exact heap_old (w := w.drew) k hk
  have hnew : w'.heap[w.heap.size]? = some (.cells c e (0, 0)) := by
    rcases hw with rfl | rfl
    · exact heap_new
    · exact heap_new (w := w.drew)
  have hsz : w'.heap.size = w.heap.size + 1 := by rcases hw with rfl | rfl <;> simp
  have hbel : Below B w w' := by
    rcases hw with rfl | rfl
    · exact below_alloc h _
    · exact ((Below.refl B w).drew).alloc h.base _
  let K' := K.push w.heap.size (.slice (some ⟨w.heap.size, 0, none⟩) l.length cap) (tsize C.E T) true
  have hx : Ext K w K' w' := by
    refine Gh.push_ext _ _ _ _ (fun b o ho => ?_) (fun b ob h0 he => ?_)
    · rcases Nat.lt_or_ge b w.heap.size with q | q
      · exact World.cell?_of_block (hold b q)
      · rw [h.new b q] at ho; omega
    · rcases Nat.lt_or_ge b w.heap.size with q | q
      · rw [hold b q]; exact keeps.of he
      · rw [h.new b q] at h0; omega
  have hσ : K'.σ w.heap.size = 0 := h.new _ (Nat.le_refl _)
  have ho : ObjOK C.E K' w' B K.n (.arr e T l 0 false) := by
    refine ⟨by simp [K', Gh.push], by simp [K', Gh.push], .inr ⟨by simp [K', Gh.push], c, cap, by simp [K', Gh.push], hcap, hmax, hs, by simp [K', Gh.push, hnew], ?_, ?_, ?_, ?_⟩⟩
    · intro i x hi j cl hj
      obtain ⟨v, q1, q2⟩ := hc i x hi j cl hj
      exact ⟨v, q1, q2.mono hx.σ hx.cell⟩
    · simp only [K', Gh.push, if_true] at hσ ⊢; rw [hσ]; exact Nat.zero_le _
    · intro _; simpa [K', Gh.push] using hσ
    · simp only [K', Gh.push, if_true]; exact h.base
  obtain ⟨hr, hx'⟩ := h.push (w' := w') (by omega) hold (fun _ => Nat.le_refl _) ho
  refine ⟨K', hx', hbel, hr, .own _ _ _ ?_ (Nat.zero_le _) ⟨_, _, _, rfl⟩ fun _ => ?_⟩
  · simp only [K', Gh.push, h.n]; omega
  · simp [K', Gh.push, h.n]

/-- An own array of nothing, without memory. -/
theorem newNil (h : RelM C K w B m) (e : TypeId) (T : Ty) (a : Option Addr) : ∃ K', Ext K w K' w ∧ RelM C K' w B (m ++ [.arr e T [] 0 false]) ∧ RepV C.E K' w (.slice a 0 0) (.own m.length 0) := by
  have ho : ObjOK C.E (K.push 0 (.slice a 0 0) (tsize C.E T) false) w B K.n (.arr e T [] 0 false) :=
    ⟨by simp [Gh.push], by simp [Gh.push], .inl ⟨by simp [Gh.push], rfl, a, by simp [Gh.push]⟩⟩
  obtain ⟨hr, hx⟩ := h.push (w' := w) (Nat.le_refl _) (fun _ _ => rfl) (fun q => by cases q) ho
  exact ⟨_, hx, hr, .own _ _ _ (by simp only [Gh.push, h.n]; omega) (Nat.zero_le _) ⟨_, _, _, rfl⟩ fun _ => by simp [Gh.push, h.n]⟩

/-- The cells of a list that is read. -/
theorem rep_cells {σ : Nat → Nat} (hE : EnvOK C.E) {T : Ty} {l : List (den S T)} {ad : Option Addr} {len cap : Nat} (h : Rep C.E σ w (.slice ad len cap) (.slice T) l) :
    len = l.length ∧ ∃ cs : List Value, cs.length = l.length * tsize C.E T ∧ (∀ a, ad = some a → ∀ j v, cs[j]? = some v → w.cell? (a.add j) = some v) ∧ (ad = none → cs = []) ∧ (∀ u ∈ cs, u.oneCell' = true) ∧
      ∀ (i : Nat) (x : den S T), l[i]? = some x → ∀ (j : Nat) (cl : Cell S), (cellsOf C.E T x)[j]? = some cl → ∃ v, cs[i * tsize C.E T + j]? = some v ∧ Rep C.E σ w v cl.t cl.x := by
  cases h with
  | nil => exact ⟨rfl, [], by simp, by simp, by simp, by simp, by simp⟩
  | slice _ _ b off cap vs hcap hst hc hr =>
    refine ⟨rfl, (List.range (l.length * tsize C.E T)).map vs, by simp, ?_, by simp, ?_, ?_⟩
    · intro a ha j v hj
      simp only [Option.some.injEq] at ha
      subst ha
      rw [List.getElem?_map] at hj
      by_cases q : j < l.length * tsize C.E T
      · rw [List.getElem?_range q] at hj
        simp only [Option.map_some, Option.some.injEq] at hj
        subst hj
        rw [add_lit]; exact hc j q
      · rw [List.getElem?_eq_none (by simp; omega)] at hj; cases hj
    · intro u hu
      obtain ⟨k, hk, rfl⟩ := List.mem_map.1 hu
      rw [List.mem_range] at hk
      by_cases hz : tsize C.E T = 0
      · rw [hz] at hk; omega
      · have hi : k / tsize C.E T < l.length := by
          rw [Nat.div_lt_iff_lt_mul (by omega)]; exact hk
        have hj : k % tsize C.E T < (cellsOf C.E T l[k / tsize C.E T]).length := by rw [cellsOf_len hE]; exact Nat.mod_lt _ (by omega)
        have := hr (k / tsize C.E T) _ (List.getElem?_eq_getElem hi) (k % tsize C.E T) _ (List.getElem?_eq_getElem hj)
        rw [Nat.div_add_mod' k] at this
        exact this.one
    · intro i x hi j cl hj
      have hil := (List.getElem?_eq_some_iff.1 hi).1
      have hjl : j < tsize C.E T := by rw [← cellsOf_len hE T x]; exact (List.getElem?_eq_some_iff.1 hj).1
      have hlt : i * tsize C.E T + j < l.length * tsize C.E T := by
        have : (i + 1) * tsize C.E T ≤ l.length * tsize C.E T := Nat.mul_le_mul_right _ hil
        rw [Nat.succ_mul] at this; omega
      refine ⟨vs (i * tsize C.E T + j), by rw [List.getElem?_map, List.getElem?_range hlt]; rfl, hr i x hi j cl hj⟩

theorem app_cells {σ : Nat → Nat} {T : Ty} {l ys : List (den S T)} {cs ds : List Value} (hl : cs.length = l.length * tsize C.E T)
    (h1 : ∀ (i : Nat) (x : den S T), l[i]? = some x → ∀ (j : Nat) (cl : Cell S), (cellsOf C.E T x)[j]? = some cl → ∃ v, cs[i * tsize C.E T + j]? = some v ∧ Rep C.E σ w v cl.t cl.x)
    (h2 : ∀ (i : Nat) (x : den S T), ys[i]? = some x → ∀ (j : Nat) (cl : Cell S), (cellsOf C.E T x)[j]? = some cl → ∃ v, ds[i * tsize C.E T + j]? = some v ∧ Rep C.E σ w v cl.t cl.x) :
    ∀ (i : Nat) (x : den S T), (l ++ ys)[i]? = some x → ∀ (j : Nat) (cl : Cell S), (cellsOf C.E T x)[j]? = some cl → ∃ v, (cs ++ ds)[i * tsize C.E T + j]? = some v ∧ Rep C.E σ w v cl.t cl.x := by
  intro i x hi j cl hj
  by_cases q : i < l.length
  · rw [List.getElem?_append_left q] at hi
    obtain ⟨v, r1, r2⟩ := h1 i x hi j cl hj
    exact ⟨v, by rw [List.getElem?_append_left (List.getElem?_eq_some_iff.1 r1).1]; exact r1, r2⟩
  · rw [List.getElem?_append_right (by omega)] at hi
    obtain ⟨v, r1, r2⟩ := h2 _ x hi j cl hj
    refine ⟨v, ?_, r2⟩
    have : i * tsize C.E T = l.length * tsize C.E T + (i - l.length) * tsize C.E T := by rw [← Nat.add_mul]; congr 1; omega
    rw [List.getElem?_append_right (by omega), hl]
    rw [show i * tsize C.E T + j - l.length * tsize C.E T = (i - l.length) * tsize C.E T + j by omega]
    exact r1
end
end Go.Lv
