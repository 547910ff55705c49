import Derived.Test.YtonphdpgepnenaaDoorLvAddr
namespace Go.Lv
set_option linter.all false
open Go Go.RowKit
variable {S : Nat → Type}

theorem setCells_get (cs : List (V S)) : ∀ (vs : List (V S)) (off : Nat), off + vs.length ≤ cs.length → ∀ j : Nat, (setCells cs off vs)[j]? = if off ≤ j ∧ j < off + vs.length then vs[j - off]? else cs[j]? := by
  intro vs
  induction vs generalizing cs with
  | nil => intro off _ j; simp [setCells]; omega
  | cons v vs ih =>
    intro off hle j
    simp only [List.length_cons] at hle
    simp only [setCells]
    rw [ih (cs.set off v) (off + 1) (by simp; omega) j]
    by_cases h1 : off + 1 ≤ j ∧ j < off + 1 + vs.length
    · rw [if_pos h1, if_pos (by simp; omega)]
      have : j - off = (j - (off + 1)) + 1 := by omega
      rw [this, List.getElem?_cons_succ]
    · rw [if_neg h1]
      by_cases h2 : j = off
      · subst h2
        rw [List.getElem?_set_self (by omega), if_pos (by simp)]
        simp
      · rw [List.getElem?_set_ne (fun q => h2 q.symm), if_neg (by simp; omega)]
theorem setCells_len (cs vs : List (V S)) (off : Nat) : (setCells cs off vs).length = cs.length := by
  induction vs generalizing cs off with
  | nil => rfl
  | cons v vs ih => simp [setCells, ih]

theorem splice_get (c vs : List Value) (off : Nat) (h : off + vs.length ≤ c.length) (j : Nat) :
    (c.take off ++ vs ++ c.drop (off + vs.length))[j]? = if off ≤ j ∧ j < off + vs.length then vs[j - off]? else c[j]? := by
  have hl : (c.take off).length = off := by simp; omega
  by_cases h1 : j < off
  · rw [List.append_assoc, List.getElem?_append_left (by omega), if_neg (by omega), List.getElem?_take, if_pos h1]
  · by_cases h2 : j < off + vs.length
    · rw [List.append_assoc, List.getElem?_append_right (by omega), hl, List.getElem?_append_left (by omega), if_pos (by omega)]
    · rw [List.getElem?_append_right (by simp [hl]; omega), if_neg (by omega), List.getElem?_drop]
      simp only [List.length_append, hl]
      congr 1
      omega

section
variable {C : Ctx S} {K : Gh} {w : World} {B : Nat} {m : Mem S}

/-- The row that a store leaves. -/
def rowAfter (c : Array Value) (off : Nat) (vs : Array Value) : Array Value := (c.toList.take off ++ vs.toList ++ c.toList.drop (off + vs.toList.length)).toArray
theorem rowAfter_get (c : Array Value) (off : Nat) (vs : Array Value) (h : off + vs.size ≤ c.size) (j : Nat) :
    (rowAfter c off vs)[j]? = if off ≤ j ∧ j < off + vs.size then vs[j - off]? else c[j]? := by
  have := splice_get c.toList vs.toList off (by simpa using h) j
  simpa [rowAfter] using this
theorem rowAfter_size (c : Array Value) (off : Nat) (vs : Array Value) (h : off + vs.size ≤ c.size) : (rowAfter c off vs).size = c.size := by
  simp [rowAfter]; omega

theorem run_storeVar {t : TypeId} {b off : Nat} {c : Array Value} {e : TypeId} (v : Value) (hb : w.heap[b]? = some (.cells c e (0, 0))) (hs : sizeOf? C t = some v.cells.size)
    (hle : off + v.cells.size ≤ c.size) (h1 : ∀ u ∈ v.cells.toList, u.oneCell' = true) :
    (Instr.storeAt t (.pointer (some ⟨b, off, none⟩)) v).run C.P w = .ok () (w.setRow b (rowAfter c off v.cells)) := by
  have hst := run_storeCells_at C.P b off e v.cells.toList 0 c w hb (by simpa using hle) h1
  simp only [Nat.add_zero] at hst
  simp [Instr.storeAt, Instr.sureAddr, storeVar, run_sizeOf hs, hst, rowAfter]

theorem all_one {v : Value} {x : V S} (hv : RepV C.E K w v x) (h1 : x.cells.all V.one = true) :
    v.cells.size = x.cells.length ∧ (∀ (j : Nat) (c : Value) (y : V S), v.cells[j]? = some c → x.cells[j]? = some y → RepV C.E K w c y) ∧ ∀ u ∈ v.cells.toList, u.oneCell' = true := by
  have hd : x.defd = true := by
    cases x <;> first | rfl | (simp [V.cells, V.one] at h1)
  obtain ⟨a, b⟩ := hv.cells hd
  refine ⟨a, b, fun u hu => ?_⟩
  obtain ⟨j, hj, rfl⟩ := List.getElem_of_mem hu
  have hj' : j < x.cells.length := by rw [← a]; simpa using hj
  have := b j v.cells[j] x.cells[j] (by simp) (by simp [hj'])
  rw [List.all_eq_true] at h1
  exact this.oneCell (h1 _ (List.getElem_mem hj'))

theorem Ext.setRow (h : RelM C K w B m) {b : Nat} {c c' : Array Value} {e : TypeId} {fr : Nat × Nat} (hb : w.heap[b]? = some (.cells c e fr)) (hσ : K.σ b = 0) : Ext K w K (w.setRow b c') := by
  refine ⟨Nat.le_refl _, fun i _ => ⟨Nat.le_refl _, fun _ => ⟨rfl, rfl, rfl⟩⟩, fun _ => Nat.le_refl _, fun k o ho => ?_, fun k ob h0 he => ?_, .inr rfl⟩
  · have : k ≠ b := by intro q; subst q; omega
    exact World.cell?_of_block (setRow_other w b k c' this)
  · have : k ≠ b := by intro q; subst q; omega
    rw [setRow_other w b k c' this]; exact keeps.of he

theorem Below.setRow {b : Nat} (c' : Array Value) (hB : B ≤ b) : Below B w (w.setRow b c') :=
  ⟨rfl, rfl, rfl, by simp [World.setRow], fun k hk => setRow_other w b k c' (by omega)⟩

theorem size_setRow (b : Nat) (c' : Array Value) : (w.setRow b c').heap.size = w.heap.size := by simp [World.setRow]

theorem store_box (h : RelM C K w B m) {t : TypeId} {id off : Nat} {cs : List (V S)} (hm : m[id]? = some (.box cs false)) {a v : Value} {y : V S} (ha : RepV C.E K w a (.ptr id off)) (hv : RepV C.E K w v y)
    (h1 : y.cells.all V.one = true) (hs : some y.cells.length = sizeOf? C t) (hle : off + y.cells.length ≤ cs.length) :
    ∃ w', (Instr.storeAt t a v).run C.P w = .ok () w' ∧ Ext K w K w' ∧ Below B w w' ∧ RelM C K w' B (m.set id (.box (setCells cs off y.cells) false)) := by
  obtain ⟨g0, hl, c, e, p1, p2, p3, p4, p5⟩ := h.ob id _ hm
  have hin : id < K.n := by rw [h.n]; exact (List.getElem?_eq_some_iff.1 hm).1
  obtain ⟨a1, a2, a3⟩ := all_one hv h1
  cases ha with
  | ptr _ _ _ hn hp hh =>
    rw [hh g0]
    have hle' : off + v.cells.size ≤ c.size := by rw [a1, p2]; exact hle
    have hrun := run_storeVar (C := C) (t := t) v p1 (by rw [← hs, a1]) hle' a3
    have hx : Ext K w K (w.setRow (K.ι id) (rowAfter c off v.cells)) := Ext.setRow h p1 (p4 rfl)
    refine ⟨_, hrun, hx, Below.setRow _ p5, ?_⟩
    refine h.set hin hx rfl (fun j _ _ => ⟨rfl, rfl, rfl, rfl, rfl⟩) (fun b => .inl rfl) (fun k _ hk => setRow_other w _ k _ (hk hl)) (by rw [size_setRow]; exact Nat.le_refl _) (fun _ => .inl ⟨hl, rfl⟩) (fun b hb => h.new b (by rw [size_setRow] at hb; exact hb)) ?_
    refine ⟨g0, hl, rowAfter c off v.cells, e, setRow_heap w _ c _ e _ p1, by rw [rowAfter_size _ _ _ hle', setCells_len, p2], fun j u z hu hz => ?_, p4, p5⟩
    rw [rowAfter_get _ _ _ hle'] at hu
    rw [setCells_get _ _ _ hle] at hz
    rw [a1] at hu
    by_cases q : off ≤ j ∧ j < off + y.cells.length
    · rw [if_pos q] at hu hz
      exact (a2 _ u z hu hz).mono hx
    · rw [if_neg q] at hu hz
      exact (p3 j u z hu hz).mono hx

theorem leafOf (hE : EnvOK C.E) {t : Ty} {x : den S t} {j : Nat} {cl : Cell S} (h : (cellsOf C.E t x)[j]? = some cl) (ht : ∃ i, t = .st i) : ∀ n, cl.t ≠ .st n := by
  obtain ⟨i, rfl⟩ := ht
  intro n q
  simp only [cellsOf] at h
  have hm : cl.t ∈ C.E.tys i := by
    rw [← hE.typed i x]
    exact List.mem_map.2 ⟨cl, List.mem_of_getElem? h, rfl⟩
  exact hE.leaf i _ hm n q

theorem Same.ext {K K' : Gh} (h : Same K K') (hσ : ∀ b, K.σ b ≤ K'.σ b) : Ext K w K' w :=
  ⟨Nat.le_of_eq h.n.symm, fun i _ => ⟨by rw [h.gen]; exact Nat.le_refl _, fun _ => ⟨by rw [h.ι], by rw [h.hv], by rw [h.esz]⟩⟩, hσ, fun _ _ _ => rfl, fun _ _ _ q => keeps.of q, .inr h.σ0⟩

/-- A store into an element of an own array. -/
theorem store_arr (hE : EnvOK C.E) (h : RelM C K w B m) {t : TypeId} {id g i off : Nat} {e : TypeId} {T : Ty} {l : List (den S T)} (hm : m[id]? = some (.arr e T l g false)) {x y' : den S T} (hi : l[i]? = some x)
    {a v : Value} {y : V S} (ha : RepV C.E K w a (.eptr id g i off)) (hv : RepV C.E K w v y) (hid : y.owns.contains id = false)
    (h1 : y.cells.all V.one = true) (hs : some y.cells.length = sizeOf? C t) (hle : off + y.cells.length ≤ (elemCells C.E T x).length)
    (hy : ∀ (j : Nat) (z : V S) (cl : Cell S), (setCells (elemCells C.E T x) off y.cells)[j]? = some z → (cellsOf C.E T y')[j]? = some cl → decLeaf m cl.t z = some cl.x) :
    ∃ K' w', (Instr.storeAt t a v).run C.P w = .ok () w' ∧ Ext K w K' w' ∧ Below B w w' ∧ RelM C K' w' B ((mark m y.owns).set id (.arr e T (l.set i y') g false)) := by
  obtain ⟨q1, q2, q3, c, cap, q4, q5, q6, q7, q8, q9, q10, q11, q12⟩ := arr_cells hE h hm hi
  have hin : id < K.n := by rw [h.n]; exact (List.getElem?_eq_some_iff.1 hm).1
  have hil : i < l.length := (List.getElem?_eq_some_iff.1 hi).1
  obtain ⟨a1, a2, a3⟩ := all_one hv h1
  have hel : (elemCells C.E T x).length = tsize C.E T := by rw [elemCells_eq, List.length_map, cellsOf_len hE]
  have hrow : i * tsize C.E T + tsize C.E T ≤ c.size := by
    rw [q6, ← Nat.succ_mul]; exact Nat.mul_le_mul_right _ (by omega)
  have hle' : i * tsize C.E T + off + v.cells.size ≤ c.size := by rw [a1]; omega
  have haddr : a = .pointer (some ⟨K.ι id, i * tsize C.E T + off, none⟩) := by
    cases ha with | eptr _ _ _ _ _ hn hg hp hh => rw [hh q1, q2]
  subst haddr
  have hrun := run_storeVar (C := C) (t := t) v q5 (by rw [← hs, a1]) hle' a3
  obtain ⟨K1, x1, s1, r1, f1⟩ := freeze h y.owns
  have hσ0 : K.σ (K.ι id) = 0 := q10 rfl
  -- the store's own block stays unstable
  have hm1 : (mark m y.owns)[id]? = some (.arr e T l g false) := by
    have : ∀ (ids : List Nat) (m : Mem S), m[id]? = some (.arr e T l g false) → ids.contains id = false → (mark m ids)[id]? = some (.arr e T l g false) := by
      intro ids
      induction ids with
      | nil => intro m h _; exact h
      | cons k ids ih =>
        intro m h hk
        simp only [List.contains_cons, Bool.or_eq_false_iff] at hk
        refine ih _ ?_ hk.2
        unfold mark1
        split
        · rw [List.getElem?_set_ne (by intro q; subst q; simp at hk)]; exact h
        · exact h
    exact this y.owns m hm hid
  obtain ⟨_, _, b3, c', cap', b4, b5, b6, b7, b8, b9, b10, b11, b12⟩ := arr_cells hE r1 hm1 hi
  have hc : c' = c := by rw [s1.ι, q5] at b5; cases b5; rfl
  subst hc
  have hx : Ext K1 w K1 (w.setRow (K.ι id) (rowAfter c' (i * tsize C.E T + off) v.cells)) := by
    have := Ext.setRow (c' := rowAfter c' (i * tsize C.E T + off) v.cells) r1 b5 (b10 rfl)
    rwa [s1.ι] at this
  refine ⟨K1, _, hrun, x1.trans hx, Below.setRow _ q9, ?_⟩
  have hin1 : id < K1.n := by rw [s1.n]; exact hin
  refine r1.set hin1 hx rfl (fun j _ _ => ⟨rfl, rfl, rfl, rfl, rfl⟩) (fun b => .inl rfl) (fun k _ hk => setRow_other w _ k _ (by rw [← s1.ι]; exact hk b3)) (by rw [size_setRow]; exact Nat.le_refl _) (fun _ => .inl ⟨b3, rfl⟩) (fun b hb => r1.new b (by rw [size_setRow] at hb; exact hb)) ?_
  refine ⟨by rw [s1.gen]; exact q1, by rw [s1.esz]; exact q2, .inr ⟨b3, rowAfter c' (i * tsize C.E T + off) v.cells, cap', ?_, ?_, b8, ?_, ?_, ?_, ?_, fun _ => b10 rfl, b9⟩⟩
  · rw [b4]; simp
  · simpa using b7
  · rw [rowAfter_size _ _ _ hle']; exact b6
  · rw [s1.ι]; exact setRow_heap w _ c' _ e _ q5
  · intro i' x' hi' j cl hcl
    have hjt : j < tsize C.E T := by rw [← cellsOf_len hE T x']; exact (List.getElem?_eq_some_iff.1 hcl).1
    rw [rowAfter_get _ _ _ hle', a1]
    by_cases e1 : i' = i
    · subst e1
      rw [List.getElem?_set_self hil] at hi'
      cases hi'
      have hz : j < (setCells (elemCells C.E T x) off y.cells).length := by rw [setCells_len, hel]; exact hjt
      obtain ⟨zz, hzz⟩ : ∃ zz, (setCells (elemCells C.E T x) off y.cells)[j]? = some zz := ⟨_, List.getElem?_eq_getElem hz⟩
      have hdec := hy j zz cl hzz hcl
      have hget := setCells_get (elemCells C.E T x) y.cells off hle j
      rw [hzz] at hget
      by_cases q : i' * tsize C.E T + off ≤ i' * tsize C.E T + j ∧ i' * tsize C.E T + j < i' * tsize C.E T + off + y.cells.length
      · rw [if_pos q]
        rw [if_pos (by omega)] at hget
        have hk : i' * tsize C.E T + j - (i' * tsize C.E T + off) = j - off := by omega
        have hjo : j - off < y.cells.length := by omega
        have hjv : j - off < v.cells.size := by rw [a1]; exact hjo
        refine ⟨v.cells[j - off], by rw [hk]; simp [hjv], ?_⟩
        have hrep := a2 (j - off) v.cells[j - off] zz (by simp [hjv]) hget.symm
        have hr1 := hrep.mono x1
        have hlike := mark_like m y.owns
        refine (decLeaf_rep r1 hr1 (t := cl.t) (y := cl.x) ?_ ?_).mono hx.σ hx.cell
        · -- reading does not hang on the marks
          rw [← hdec]
          exact decLeaf_like hlike _ _
        · intro id' g' hq
          intro id'' hid''
          simp only [List.mem_singleton] at hid''
          subst hid''
          refine f1 _ ?_
          have hmem : zz ∈ y.cells := List.mem_of_getElem? hget.symm
          rw [hq] at hmem
          cases y <;> simp only [V.cells] at hmem
          case agg cs => simp only [V.owns, List.mem_filterMap]; exact ⟨_, hmem, rfl⟩
          case own a b => simp only [List.mem_singleton, V.own.injEq] at hmem; simp [V.owns, hmem.1]
          all_goals simp at hmem
      · rw [if_neg q]
        rw [if_neg (by omega)] at hget
        have hz2 := hget.symm
        rw [elemCells_eq, List.getElem?_map] at hz2
        cases hcx : (cellsOf C.E T x)[j]? with
        | none => rw [hcx] at hz2; simp at hz2
        | some cx =>
          rw [hcx] at hz2
          simp only [Option.map_some, Option.some.injEq] at hz2
          rw [← hz2] at hdec
          simp only [decLeaf] at hdec
          split at hdec
          · rename_i et
            obtain ⟨u, u1, u2⟩ := b12 i' x hi j cx hcx
            refine ⟨u, u1, ?_⟩
            obtain ⟨ct, cxx⟩ := cl
            obtain ⟨ct', cxx'⟩ := cx
            simp only at et
            subst et
            simp only [Option.some.injEq] at hdec
            subst hdec
            exact u2.mono hx.σ hx.cell
          · cases hdec
    · rw [List.getElem?_set_ne (fun q => e1 q.symm)] at hi'
      obtain ⟨u, u1, u2⟩ := b12 i' x' hi' j cl hcl
      have hoff : ¬ (i * tsize C.E T + off ≤ i' * tsize C.E T + j ∧ i' * tsize C.E T + j < i * tsize C.E T + off + y.cells.length) := by
        rintro ⟨r1, r2⟩
        rcases Nat.lt_or_gt_of_ne e1 with q | q
        · have : (i' + 1) * tsize C.E T ≤ i * tsize C.E T := Nat.mul_le_mul_right _ q
          rw [Nat.succ_mul] at this; omega
        · have : (i + 1) * tsize C.E T ≤ i' * tsize C.E T := Nat.mul_le_mul_right _ q
          rw [Nat.succ_mul] at this; omega
      rw [if_neg hoff]
      exact ⟨u, u1, u2.mono hx.σ hx.cell⟩
  · rw [b10 rfl]; exact Nat.zero_le _
end
end Go.Lv
