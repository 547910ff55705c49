import Derived.Test.YtonphdpgepnenaaDoorLvMem
namespace Go.Lv
set_option linter.all false
open Go Go.RowKit
variable {S : Nat → Type}

section
variable {C : Ctx S} {K : Gh} {w : World} {B : Nat} {m : Mem S}

theorem opt_ofOpt_bind {α β : Type} {o : Option α} {f : α → D β} {b : β} (h : ((D.ofOpt o).bind f).opt = some b) : ∃ a, o = some a ∧ (f a).opt = some b := by
  cases o with
  | none => simp [D.ofOpt, D.bind, D.opt] at h
  | some a => exact ⟨a, rfl, h⟩
theorem opt_bind_ret {α β : Type} {d : D α} {f : α → β} {b : β} (h : (d.bind fun a => .ret (f a)).opt = some b) : ∃ a, d.opt = some a ∧ f a = b := by
  rw [D.opt_bind] at h
  cases hd : d.opt with
  | none => rw [hd] at h; cases h
  | some a => rw [hd] at h; simp only [Option.bind_some, D.opt, Option.some.injEq] at h; exact ⟨a, rfl, h⟩
theorem opt_bind_some {α β : Type} {d : D α} {f : α → D β} {b : β} (h : (d.bind f).opt = some b) : ∃ a, d.opt = some a ∧ (f a).opt = some b := by
  rw [D.opt_bind] at h
  cases hd : d.opt with
  | none => rw [hd] at h; cases h
  | some a => rw [hd] at h; exact ⟨a, rfl, h⟩

theorem info_size {t n : Nat} (h : sizeOf? C t = some n) : ∃ i, C.P.info? t = some i ∧ i.size = n := by
  unfold sizeOf? at h
  cases hi : C.P.info? t with
  | none => rw [hi] at h; cases h
  | some i => rw [hi] at h; simp at h; exact ⟨i, rfl, h⟩
theorem run_sizeOf {t n : Nat} (h : sizeOf? C t = some n) : (sizeOf t).run C.P w = .ok n w := by
  obtain ⟨i, hi, hs⟩ := info_size h
  simp [sizeOf, typeInfo, hi, hs]
theorem run_isAgg {t : TypeId} {b : Bool} (h : isAgg? C t = some b) : (isAgg t).run C.P w = .ok b w := by
  unfold isAgg? at h
  cases hu : C.P.underlying t with
  | none => rw [hu] at h; cases h
  | some d => rw [hu] at h; cases d <;> simp at h <;> subst h <;> simp [isAgg, run_underlying hu]

theorem field_inv {s : TypeId} {f : Nat} {p : Nat × TypeId} (h : fieldAt? C s f = some p) :
    ∃ fs x n, C.P.underlying s = some (.struct fs) ∧ fs[f]? = some x ∧ sizeOf? C x.type = some (n + 1) ∧ p = (x.offset, x.type) := by
  unfold fieldAt? at h
  split at h
  · rename_i fs hu
    split at h
    · rename_i x hx
      split at h
      · rename_i n hn; cases h; exact ⟨fs, x, n, hu, hx, hn, rfl⟩
      · cases h
    · cases h
  · cases h

theorem run_fieldAt {s : TypeId} {f : Nat} {p : Nat × TypeId} (h : fieldAt? C s f = some p) (a : Addr) :
    (Instr.fieldAt s (.pointer (some a)) f).run C.P w = .ok (.pointer (some (a.add p.1))) w := by
  obtain ⟨fs, x, n, hu, hx, hn, rfl⟩ := field_inv h
  have hs := run_sizeOf (w := w) hn
  simp [Instr.fieldAt, run_underlying hu, hx, Instr.sureAddr, fieldPlace, hs]

theorem ro_drop {b off k : Nat} {vs : List (V S)} (h : RepV C.E K w (.pointer (some ⟨b, off, none⟩)) (.ro vs)) (hk : k ≤ vs.length) :
    RepV C.E K w (.pointer (some ⟨b, off + k, none⟩)) (.ro (vs.drop k)) := by
  cases h with
  | ro b off vs f hst hc hr =>
    refine .ro b (off + k) _ (fun j => f (k + j)) (by simp; omega) (fun j hj => ?_) (fun j v hv => ?_)
    · simp at hj
      have := hc (k + j) (by omega)
      rwa [← Nat.add_assoc] at this
    · rw [List.getElem?_drop] at hv
      exact hr _ v hv

theorem ro_pointer {v : Value} {vs : List (V S)} (h : RepV C.E K w v (.ro vs)) : ∃ b off, v = .pointer (some ⟨b, off, none⟩) := by
  cases h with | ro b off vs f hst hc hr => exact ⟨b, off, rfl⟩

theorem add_lit (b o n : Nat) : Addr.add ⟨b, o, none⟩ n = ⟨b, o + n, none⟩ := by
  unfold Addr.add; split <;> simp_all

/-- Further on from an address. -/
theorem fa_rep {off : Nat} {v : Value} {x y : V S} (hv : RepV C.E K w v x) (h : (semFA off x).opt = some y) :
    ∃ a, v = .pointer (some a) ∧ RepV C.E K w (.pointer (some (a.add off))) y := by
  unfold semFA at h
  split at h
  · rename_i id o
    simp only [D.opt, Option.some.injEq] at h
    subst h
    cases hv with
    | ptr _ _ _ hn hp hh =>
      obtain ⟨a, rfl⟩ := hp
      refine ⟨a, rfl, .ptr id _ _ hn ⟨_, rfl⟩ fun hg => ?_⟩
      have := hh hg
      simp only [Value.pointer.injEq, Option.some.injEq] at this
      subst this
      rw [add_lit]
  · rename_i cs
    split at h
    · rename_i hk
      simp only [D.opt, Option.some.injEq] at h
      subst h
      obtain ⟨b, o, rfl⟩ := ro_pointer hv
      exact ⟨_, rfl, by rw [add_lit]; exact ro_drop hv hk⟩
    · simp [D.opt] at h
  · rename_i id g i o
    simp only [D.opt, Option.some.injEq] at h
    subst h
    cases hv with
    | eptr _ _ _ _ _ hn hg hp hh =>
      obtain ⟨a, rfl⟩ := hp
      refine ⟨a, rfl, .eptr id g i _ _ hn hg ⟨_, rfl⟩ fun he => ?_⟩
      have := hh he
      simp only [Value.pointer.injEq, Option.some.injEq] at this
      subst this
      rw [add_lit, Nat.add_assoc]
  · simp [D.opt] at h

theorem fieldAddr_res (h : RelM C K w B m) {s : TypeId} {f : Nat} {p : Nat × TypeId} (hf : fieldAt? C s f = some p) {v : Value} {x y : V S} (hv : RepV C.E K w v x)
    (hx : (semFA p.1 x).opt = some y) : VRes C K w B ((Instr.fieldAt s v f).run C.P w) y m := by
  obtain ⟨a, rfl, hr⟩ := fa_rep hv hx
  exact VRes.pur h (run_fieldAt hf a) hr

/-- A part that is taken out of cells. -/
theorem take_rep {t : TypeId} {cs : Array Value} {vs : List (V S)} {off : Nat} {y : V S} (hs : cs.size = vs.length)
    (hj : ∀ (j : Nat) (c : Value) (v : V S), cs[j]? = some c → vs[j]? = some v → RepV C.E K w c v) (h : take? C t vs off = some y) :
    ∃ v, (part t cs off).run C.P w = .ok v w ∧ RepV C.E K w v y := by
  unfold take? at h
  cases ha : isAgg? C t with
  | none => rw [ha] at h; cases h
  | some b =>
    rw [ha] at h
    simp only [Option.bind_some] at h
    have hra := run_isAgg (w := w) ha
    cases b with
    | true =>
      simp only [if_true] at h
      cases hn : sizeOf? C t with
      | none => rw [hn] at h; cases h
      | some n =>
        rw [hn] at h
        simp only [Option.bind_some] at h
        split at h
        · rename_i hle
          cases h
          refine ⟨.agg (cs.extract off (off + n)), by simp [part, hra, run_sizeOf hn], .agg _ _ (by simp [Array.size_extract]; omega) fun j c v hc hv => ?_⟩
          rw [Array.getElem?_extract] at hc
          split at hc
          · rename_i hj'
            rw [List.getElem?_take, List.getElem?_drop] at hv
            split at hv
            · exact hj _ c v hc hv
            · cases hv
          · cases hc
        · cases h
    | false =>
      simp only [Bool.false_eq_true, if_false] at h
      have hlt : off < cs.size := by rw [hs]; exact (List.getElem?_eq_some_iff.1 h).1
      exact ⟨cs[off], by simp [part, hra, hlt], hj off _ y (by simp [hlt]) h⟩

/-- The same out of memory. -/
theorem load_rep {t : TypeId} {b o off : Nat} {vs : List (V S)} {f : Nat → Value} {y : V S} (hc : ∀ j, j < vs.length → w.cell? ⟨b, o + j, none⟩ = some (f j))
    (hr : ∀ (j : Nat) (v : V S), vs[j]? = some v → RepV C.E K w (f j) v) (h : take? C t vs off = some y) :
    ∃ v, (Instr.loadAt t (.pointer (some ⟨b, o + off, none⟩))).run C.P w = .ok v w ∧ RepV C.E K w v y := by
  unfold take? at h
  cases ha : isAgg? C t with
  | none => rw [ha] at h; cases h
  | some ag =>
    rw [ha] at h
    simp only [Option.bind_some] at h
    have hra := run_isAgg (w := w) ha
    cases ag with
    | true =>
      simp only [if_true] at h
      cases hn : sizeOf? C t with
      | none => rw [hn] at h; cases h
      | some n =>
        rw [hn] at h
        simp only [Option.bind_some] at h
        split at h
        · rename_i hle
          cases h
          have hl := run_loadCells (P := C.P) w ⟨b, o + off, none⟩ n (fun j => f (off + j)) (fun j hj => by rw [add_lit, Nat.add_assoc]; exact hc _ (by omega))
          refine ⟨.agg ((List.range n).map fun j => f (off + j)).toArray, by simp [Instr.loadAt, Instr.sureAddr, loadVar, hra, run_sizeOf hn, hl], .agg _ _ (by simp; omega) fun j c v hcj hv => ?_⟩
          rw [List.getElem?_take, List.getElem?_drop] at hv
          split at hv
          · rename_i hjn
            simp [hjn] at hcj
            subst hcj
            exact hr _ v hv
          · cases hv
        · cases h
    | false =>
      simp only [Bool.false_eq_true, if_false] at h
      have hlt := (List.getElem?_eq_some_iff.1 h).1
      exact ⟨f off, by simp [Instr.loadAt, Instr.sureAddr, loadVar, hra, hc off hlt], hr off y h⟩

theorem box_cells (h : RelM C K w B m) {id : Nat} {cs : List (V S)} {fz : Bool} (hm : m[id]? = some (.box cs fz)) :
    K.gen id = 0 ∧ ∃ f : Nat → Value, (∀ j, j < cs.length → w.cell? ⟨K.ι id, 0 + j, none⟩ = some (f j)) ∧ ∀ (j : Nat) (v : V S), cs[j]? = some v → RepV C.E K w (f j) v := by
  obtain ⟨h0, hl, c, e, h1, h2, h3, h4, h5⟩ := h.ob id _ hm
  refine ⟨h0, fun j => c.getD j Go.undef, fun j hj => ?_, fun j v hv => ?_⟩
  · have hj' : j < c.size := h2 ▸ hj
    simp [World.cell?, h1, hj', Array.getD]
  · have hj' : j < c.size := by rw [h2]; exact (List.getElem?_eq_some_iff.1 hv).1
    have := h3 j c[j] v (by simp [hj']) hv
    simpa [Array.getD, hj'] using this

/-- The cells of an element of an own array. -/
theorem arr_cells (hE : EnvOK C.E) (h : RelM C K w B m) {id : Nat} {e : TypeId} {t : Ty} {l : List (den S t)} {g : Nat} {fz : Bool} (hm : m[id]? = some (.arr e t l g fz)) {i : Nat} {x : den S t} (hi : l[i]? = some x) :
    K.gen id = g ∧ K.esz id = tsize C.E t ∧ K.live id = true ∧ ∃ (c : Array Value) (cap : Nat), K.hv id = .slice (some ⟨K.ι id, 0, none⟩) l.length cap ∧ w.heap[K.ι id]? = some (.cells c e (0, 0)) ∧ c.size = cap * tsize C.E t ∧ l.length ≤ cap ∧ cap ≤ maxLen ∧ B ≤ K.ι id ∧
      (fz = false → K.σ (K.ι id) = 0) ∧ K.σ (K.ι id) ≤ l.length * tsize C.E t ∧
      (∀ (i : Nat) (x : den S t), l[i]? = some x → ∀ (j : Nat) (cl : Cell S), (cellsOf C.E t x)[j]? = some cl → ∃ v, c[i * tsize C.E t + j]? = some v ∧ Rep C.E K.σ w v cl.t cl.x) := by
  obtain ⟨h1, h2, h3⟩ := h.ob id _ hm
  rcases h3 with ⟨_, rfl, _⟩ | ⟨hl, c, cap, p1, p2, p3, p4, p5, p6, p7, p8, p9⟩
  · simp at hi
  · exact ⟨h1, h2, hl, c, cap, p1, p5, p4, p2, p3, p9, p8, p7, p6⟩

theorem elem_cells {σ : Nat → Nat} {c : Array Value} {t : Ty} {x : den S t} {i sz : Nat} (hσ : σ = K.σ)
    (h : ∀ (j : Nat) (cl : Cell S), (cellsOf C.E t x)[j]? = some cl → ∃ v, c[i * sz + j]? = some v ∧ Rep C.E σ w v cl.t cl.x) (b : Nat) (e : TypeId) (fr : Nat × Nat) (hb : w.heap[b]? = some (.cells c e fr)) :
    (∀ j, j < (elemCells C.E t x).length → w.cell? ⟨b, i * sz + j, none⟩ = some (c.getD (i * sz + j) Go.undef)) ∧
    ∀ (j : Nat) (v : V S), (elemCells C.E t x)[j]? = some v → RepV C.E K w (c.getD (i * sz + j) Go.undef) v := by
  subst hσ
  rw [elemCells_eq]
  refine ⟨fun j hj => ?_, fun j v hv => ?_⟩
  · simp at hj
    obtain ⟨u, q1, _⟩ := h j _ (List.getElem?_eq_getElem hj)
    have hlt := (Array.getElem?_eq_some_iff.1 q1).1
    simp [World.cell?, hb, hlt, Array.getD]
  · rw [List.getElem?_map] at hv
    cases hcl : (cellsOf C.E t x)[j]? with
    | none => rw [hcl] at hv; simp at hv
    | some cl =>
      rw [hcl] at hv
      simp only [Option.map_some, Option.some.injEq] at hv
      subst hv
      obtain ⟨u, q1, q2⟩ := h j cl hcl
      have hlt := (Array.getElem?_eq_some_iff.1 q1).1
      have : c.getD (i * sz + j) Go.undef = u := by
        rw [Array.getElem?_eq_getElem hlt] at q1
        simp only [Option.some.injEq] at q1
        simp [Array.getD, hlt, q1]
      rw [this]; exact .cell q2

theorem load_res (hE : EnvOK C.E) (h : RelM C K w B m) {t : TypeId} {v : Value} {x y : V S} {m' : Mem S} (hv : RepV C.E K w v x) (hx : (semLoad C m t x).opt = some (y, m')) :
    m' = m ∧ VRes C K w B ((Instr.loadAt t v).run C.P w) y m := by
  unfold semLoad at hx
  split at hx
  · rename_i id off
    split at hx
    · rename_i cs fz hm
      obtain ⟨u, hu, hx⟩ := opt_ofOpt_bind hx
      simp only [D.opt, Option.some.injEq, Prod.mk.injEq] at hx
      obtain ⟨rfl, rfl⟩ := hx
      obtain ⟨hg, f, hc, hr⟩ := box_cells h hm
      cases hv with
      | ptr _ _ _ hn hp hh =>
        rw [hh hg]
        obtain ⟨r, h1, h2⟩ := load_rep hc hr hu
        rw [Nat.zero_add] at h1
        exact ⟨rfl, VRes.pur h h1 h2⟩
    · simp [D.opt] at hx
  · rename_i cs
    obtain ⟨u, hu, hx⟩ := opt_ofOpt_bind hx
    simp only [D.opt, Option.some.injEq, Prod.mk.injEq] at hx
    obtain ⟨rfl, rfl⟩ := hx
    cases hv with
    | ro b off vs f hst hc hr =>
      obtain ⟨r, h1, h2⟩ := load_rep hc hr hu
      exact ⟨rfl, VRes.pur h h1 h2⟩
  · rename_i id g i off
    split at hx
    · rename_i e T l g' fz hm
      split at hx
      · rename_i hgg
        subst hgg
        simp only [D.opt] at hx
        cases hi : l[i]? with
        | none => rw [hi] at hx; simp at hx
        | some xx =>
          rw [hi] at hx
          simp only [Option.bind_some] at hx
          obtain ⟨u, hu, hx⟩ := opt_ofOpt_bind hx
          simp only [D.opt, Option.some.injEq, Prod.mk.injEq] at hx
          obtain ⟨rfl, rfl⟩ := hx
          obtain ⟨q1, q2, q3, c, cap, q4, q5, q6, q7, q8, q9, q10, q11, q12⟩ := arr_cells hE h hm hi
          obtain ⟨hc, hr⟩ := elem_cells (C := C) (K := K) (w := w) rfl (q12 i xx hi) (K.ι id) e (0, 0) q5
          cases hv with
          | eptr _ _ _ _ _ hn hg hp hh =>
            rw [hh q1, q2]
            obtain ⟨r, h1, h2⟩ := load_rep hc hr hu
            exact ⟨rfl, VRes.pur h h1 h2⟩
      · simp [D.opt] at hx
    · simp [D.opt] at hx
  · simp [D.opt] at hx

theorem field_res (h : RelM C K w B m) {s : TypeId} {f : Nat} {p : Nat × TypeId} (hf : fieldAt? C s f = some p) {v : Value} {x y : V S} (hv : RepV C.E K w v x)
    (hx : (semFld C p x).opt = some y) : VRes C K w B ((Instr.field s v f).run C.P w) y m := by
  obtain ⟨fs, fd, n, hu, hfd, hn, rfl⟩ := field_inv hf
  unfold semFld at hx
  split at hx
  · rw [D.opt_ofOpt] at hx
    cases hv with
    | agg cs vs hs hj =>
      obtain ⟨r, h1, h2⟩ := take_rep hs hj hx
      exact VRes.pur h (by simp [Instr.field, run_underlying hu, hfd, asAgg, h1]) h2
  · simp [D.opt] at hx
end
end Go.Lv
