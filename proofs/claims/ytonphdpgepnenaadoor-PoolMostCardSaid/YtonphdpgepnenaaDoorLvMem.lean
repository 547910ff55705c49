import Derived.Test.YtonphdpgepnenaaDoorLvOps
namespace Go.Lv
set_option linter.all false
open Go Go.RowKit
variable {S : Nat → Type}

section
variable {C : Ctx S} {K : Gh} {w : World} {B : Nat} {m : Mem S}

/-- What is read as a list is stable from now on. -/
def Frz (E : Env S) (K : Gh) (m : Mem S) (ids : List Nat) : Prop :=
  ∀ id, id ∈ ids → ∀ e t l g fz, m[id]? = some (.arr e t l g fz) → K.live id = true → l.length * tsize E t ≤ K.σ (K.ι id)

/-- Of one ghost another one differs in what is stable alone. -/
structure Same (K K' : Gh) : Prop where
  n : K'.n = K.n
  ι : K'.ι = K.ι
  hv : K'.hv = K.hv
  gen : K'.gen = K.gen
  esz : K'.esz = K.esz
  live : K'.live = K.live
  σ0 : K'.σ0 = K.σ0
theorem Same.trans {K K' K'' : Gh} (h : Same K K') (k : Same K' K'') : Same K K'' :=
  ⟨k.n.trans h.n, k.ι.trans h.ι, k.hv.trans h.hv, k.gen.trans h.gen, k.esz.trans h.esz, k.live.trans h.live, k.σ0.trans h.σ0⟩

/-- Memories that differ in what is marked alone. -/
def likeO : Option (Ob S) → Option (Ob S) → Prop
  | some (.arr e t l g fz), o => ∃ fz', o = some (.arr e t l g fz') ∧ (fz = true → fz' = true)
  | o, o' => o' = o
theorem likeO.refl (o : Option (Ob S)) : likeO o o := by
  cases o with
  | none => rfl
  | some o => cases o <;> first | rfl | exact ⟨_, rfl, id⟩
theorem likeO.trans {a b c : Option (Ob S)} (h : likeO a b) (k : likeO b c) : likeO a c := by
  cases a with
  | none => simp only [likeO] at h; subst h; exact k
  | some o =>
    cases o with
    | arr e t l g fz =>
      obtain ⟨f1, h1, h2⟩ := h
      subst h1
      obtain ⟨f2, k1, k2⟩ := k
      exact ⟨f2, k1, fun q => k2 (h2 q)⟩
    | box cs fz => simp only [likeO] at h; subst h; exact k
    | map kt vt l => simp only [likeO] at h; subst h; exact k
def Like (m m' : Mem S) : Prop := m'.length = m.length ∧ ∀ i : Nat, likeO m[i]? m'[i]?
theorem Like.refl (m : Mem S) : Like m m := ⟨rfl, fun _ => likeO.refl _⟩
theorem Like.trans {m m' m'' : Mem S} (h : Like m m') (k : Like m' m'') : Like m m'' := ⟨k.1.trans h.1, fun i => (h.2 i).trans (k.2 i)⟩
theorem mark1_like (m : Mem S) (id : Nat) : Like m (mark1 m id) := by
  unfold mark1
  split
  · rename_i e t l g fz h
    have hlt : id < m.length := (List.getElem?_eq_some_iff.1 h).1
    refine ⟨by simp, fun i => ?_⟩
    by_cases hi : i = id
    · subst hi; rw [h, List.getElem?_set_self hlt]; exact ⟨true, rfl, fun _ => rfl⟩
    · rw [List.getElem?_set_ne (fun q => hi q.symm)]; exact likeO.refl _
  · exact Like.refl m
theorem mark_like (m : Mem S) : ∀ ids, Like m (mark m ids)
  | [] => Like.refl m
  | id :: ids => (mark1_like m id).trans (mark_like (mark1 m id) ids)

/-- Reading does not hang on the marks. -/
theorem decLeaf_like {m m' : Mem S} (hl : Like m m') (t : Ty) (z : V S) : decLeaf m' t z = decLeaf m t z := by
  cases z with
  | own id g =>
    simp only [decLeaf]
    have := hl.2 id
    cases hmm : m[id]? with
    | none => rw [hmm] at this; simp only [likeO] at this; rw [this]
    | some o =>
      rw [hmm] at this
      cases o with
      | arr e t l g fz => obtain ⟨f, q, _⟩ := this; rw [q]
      | box cs fz => simp only [likeO] at this; rw [this]
      | map kt vt l => simp only [likeO] at this; rw [this]
  | clo f a b => cases a <;> cases b <;> rfl
  | _ => rfl

theorem freeze1 (h : RelM C K w B m) (id : Nat) : ∃ K', Ext K w K' w ∧ Same K K' ∧ RelM C K' w B (mark1 m id) ∧ Frz C.E K' (mark1 m id) [id] := by
  unfold mark1
  split
  · rename_i e t l g fz hm
    have hlt : id < m.length := (List.getElem?_eq_some_iff.1 hm).1
    have hin : id < K.n := h.n ▸ hlt
    obtain ⟨hg, hes, harr⟩ := h.ob id _ hm
    let K' : Gh := { K with σ := fun b => if K.live id = true ∧ b = K.ι id then max (K.σ b) (l.length * tsize C.E t) else K.σ b }
    have hx : Ext K w K' w := ⟨Nat.le_refl _, fun i _ => ⟨Nat.le_refl _, fun _ => ⟨rfl, rfl, rfl⟩⟩, fun b => by simp only [K']; split <;> omega, fun _ _ _ => rfl, fun _ _ _ q => keeps.of q, .inr rfl⟩
    have hs : Same K K' := ⟨rfl, rfl, rfl, rfl, rfl, rfl, rfl⟩
    refine ⟨K', hx, hs, ?_, ?_⟩
    · refine h.set hin hx rfl (fun j _ _ => ⟨rfl, rfl, rfl, rfl, rfl⟩) (fun b => ?_) (fun k _ _ => rfl) (Nat.le_refl _) (fun hl => .inl ⟨hl, rfl⟩) (fun b hb => ?_) ?_
      · by_cases q : K.live id = true ∧ b = K.ι id
        · exact .inr q
        · left; simp only [K', q, if_false]
      · have : ¬ (K.live id = true ∧ b = K.ι id) := by rintro ⟨q1, q2⟩; have := h.blk hin q1; omega
        simp only [K', this, if_false]; exact h.new b hb
      · refine ⟨hg, hes, ?_⟩
        rcases harr with ⟨q, q'⟩ | ⟨q, c, cap, p1, p2, p3, p4, p5, p6, p7, p8, p9⟩
        · exact .inl ⟨q, q'⟩
        · refine .inr ⟨q, c, cap, p1, p2, p3, p4, p5, ?_, ?_, by simp, p9⟩
          · intro i x hi j cl hj
            obtain ⟨v, r1, r2⟩ := p6 i x hi j cl hj
            exact ⟨v, r1, r2.mono hx.σ hx.cell⟩
          · simp only [K', q, true_and, if_true]
            exact Nat.max_le.2 ⟨p7, Nat.le_refl _⟩
    · intro id' hid e' t' l' g' fz' hm' hl
      simp only [List.mem_singleton] at hid
      subst hid
      rw [List.getElem?_set_self hlt] at hm'
      cases hm'
      simp only [K'] at hl ⊢
      simp only [hl, true_and, if_true]
      exact Nat.le_max_right _ _
  · rename_i hne
    exact ⟨K, .refl K w, ⟨rfl, rfl, rfl, rfl, rfl, rfl, rfl⟩, h, fun id' hid e t l g fz hm _ => by simp only [List.mem_singleton] at hid; subst hid; exact absurd hm (hne e t l g fz)⟩

theorem Frz.mono {E : Env S} {K K' : Gh} {m m' : Mem S} {ids : List Nat} (h : Frz E K m ids) (hs : Same K K') (hσ : ∀ b, K.σ b ≤ K'.σ b) (hl : Like m m') : Frz E K' m' ids := by
  intro id hid e t l g fz hm hli
  have := hl.2 id
  rw [hm] at this
  rw [hs.ι]
  rw [hs.live] at hli
  cases hm0 : m[id]? with
  | none => rw [hm0] at this; cases this
  | some o =>
    rw [hm0] at this
    cases o with
    | arr e' t' l' g' fz' =>
      obtain ⟨f, q, _⟩ := this
      cases q
      exact Nat.le_trans (h id hid _ _ _ _ _ hm0 hli) (hσ _)
    | box cs fz => cases this
    | map kt vt l => cases this

theorem freeze (h : RelM C K w B m) : ∀ ids, ∃ K', Ext K w K' w ∧ Same K K' ∧ RelM C K' w B (mark m ids) ∧ Frz C.E K' (mark m ids) ids := by
  intro ids
  induction ids generalizing K m with
  | nil => exact ⟨K, .refl K w, ⟨rfl, rfl, rfl, rfl, rfl, rfl, rfl⟩, h, fun id hid => by cases hid⟩
  | cons id ids ih =>
    obtain ⟨K1, x1, s1, r1, f1⟩ := freeze1 h id
    obtain ⟨K2, x2, s2, r2, f2⟩ := ih r1
    refine ⟨K2, x1.trans x2, s1.trans s2, r2, ?_⟩
    intro id' hid
    rcases List.mem_cons.1 hid with q | q
    · subst q
      exact (f1.mono s2 x2.σ (mark_like _ ids)) id' (by simp)
    · exact f2 id' q

/-- What is read out of a value. -/
theorem decLeaf_rep (h : RelM C K w B m) {t : Ty} {v : Value} {x : V S} {y : den S t} (hv : RepV C.E K w v x) (hd : decLeaf m t x = some y)
    (hf : ∀ id g, x = .own id g → Frz C.E K m [id]) : Rep C.E K.σ w v t y := by
  cases hv with
  | @cell _ t' x hx =>
    simp only [decLeaf] at hd
    split at hd
    · rename_i e; subst e; cases hd; exact hx
    · cases hd
  | @full a t' l hx =>
    simp only [decLeaf] at hd
    split at hd
    · rename_i e; subst e; cases hd; exact hx
    · cases hd
  | nilS a =>
    simp only [decLeaf] at hd
    split at hd
    · cases hd; exact .nil _ _ _
    · cases hd
  | own id g v hn hg hp hh =>
    simp only [decLeaf] at hd
    split at hd
    · rename_i e t' l g' fz hm
      split at hd
      · rename_i eg
        subst eg
        split at hd
        · rename_i et
          subst et
          cases hd
          obtain ⟨h1, h2, h3⟩ := h.ob id _ hm
          rw [hh h1]
          rcases h3 with ⟨_, rfl, a, ha⟩ | ⟨hl, c, cap, p1, p2, p3, p4, p5, p6, p7, p8, p9⟩
          · rw [ha]; exact .nil _ _ _
          · rw [p1]
            have hσ := hf id g rfl id (by simp) _ _ _ _ _ hm hl
            refine .slice t' l (K.ι id) 0 cap (fun j => c.getD j Go.undef) p2 (by simpa using hσ) (fun j hj => ?_) (fun i x hi j cl hj => ?_)
            · have hjc : j < c.size := by rw [p4]; exact Nat.lt_of_lt_of_le hj (Nat.mul_le_mul_right _ p2)
              simp [World.cell?, p5, hjc, Array.getD]
            · obtain ⟨u, q1, q2⟩ := p6 i x hi j cl hj
              have hjc := (Array.getElem?_eq_some_iff.1 q1).1
              have : c.getD (i * tsize C.E t' + j) Go.undef = u := by
                rw [Array.getElem?_eq_getElem hjc] at q1
                simp only [Option.some.injEq] at q1
                simp [Array.getD, hjc, q1]
              rw [this]; exact q2
        · cases hd
      · cases hd
    · cases hd
  | clo f a b a' b' h1 h2 hf' hc =>
    cases a' with
    | cons _ _ => simp [decLeaf] at hd
    | nil =>
      cases b' with
      | cons _ _ => simp [decLeaf] at hd
      | nil =>
        simp only [decLeaf] at hd
        split at hd
        · cases hd
          have ea : a = #[] := by simpa using h1
          have eb : b = #[] := by simpa using h2
          subst ea eb; exact .fn f
        · cases hd
  | agg => simp [decLeaf] at hd
  | ptr => simp [decLeaf] at hd
  | eptr => simp [decLeaf] at hd
  | ro => simp [decLeaf] at hd
  | tup => simp [decLeaf] at hd
  | cmap => simp [decLeaf] at hd
  | ifc => simp [decLeaf] at hd
  | mapr => simp [decLeaf] at hd
  | undef => simp [decLeaf] at hd

theorem leaf_enc (E : Env S) (t : Ty) (x : den S t) (h : ∀ n, t ≠ .st n) : encV E t x = .cell t x := by
  cases t <;> simp [encV]
  rename_i i; exact absurd rfl (h i)

/-- What a struct's cells are read as. -/
theorem ofC_rep (hE : EnvOK C.E) (h : RelM C K w B m) {i : Nat} {cs : Array Value} {vs : List (V S)} {y : S i} (hs : cs.size = vs.length)
    (hj : ∀ (j : Nat) (c : Value) (v : V S), cs[j]? = some c → vs[j]? = some v → RepV C.E K w c v) (hd : C.E.ofC i (decLeaf m) vs = some y)
    (hf : ∀ id g, V.own id g ∈ vs → Frz C.E K m [id]) :
    cs.size = (C.E.toC i y).length ∧ ∀ (j : Nat) (c : Value) (cl : Cell S), cs[j]? = some c → (C.E.toC i y)[j]? = some cl → Rep C.E K.σ w c cl.t cl.x := by
  obtain ⟨h1, h2⟩ := hE.back i (decLeaf m) vs y hd
  have hlen : (C.E.toC i y).length = (C.E.tys i).length := by rw [← hE.typed i y]; simp
  refine ⟨by rw [hs, h1, hlen], fun j c cl hc hcl => ?_⟩
  have hjl : j < vs.length := by rw [← hs]; exact (Array.getElem?_eq_some_iff.1 hc).1
  have hv : vs[j]? = some vs[j] := by simp [hjl]
  exact decLeaf_rep h (hj j c _ hc hv) (h2 j _ cl hv hcl) fun id g e => hf id g (e ▸ List.getElem_mem hjl)

theorem decSt_rep (hE : EnvOK C.E) (h : RelM C K w B m) {i : Nat} {v : Value} {x : V S} {y : S i} (hv : RepV C.E K w v x) (hd : decSt C.E m i x = some y)
    (hf : Frz C.E K m x.owns) : RepV C.E K w v (encV C.E (.st i) y) := by
  unfold decSt at hd
  split at hd
  · rename_i vs
    cases hv with
    | agg cs _ hs hj =>
      obtain ⟨h1, h2⟩ := ofC_rep hE h hs hj hd (fun id g hin => by
        intro id' hid'
        simp only [List.mem_singleton] at hid'
        subst hid'
        exact hf _ (by simp only [V.owns, List.mem_filterMap]; exact ⟨_, hin, rfl⟩))
      refine .agg cs _ (by simpa using h1) fun j c u hc hu => ?_
      rw [List.getElem?_map] at hu
      cases hcl : (C.E.toC i y)[j]? with
      | none => rw [hcl] at hu; simp at hu
      | some cl =>
        rw [hcl] at hu
        simp only [Option.map_some, Option.some.injEq] at hu
        subst hu
        exact .cell (h2 j c cl hc hcl)
  · cases hd

theorem dec_rep (hE : EnvOK C.E) (h : RelM C K w B m) {t : Ty} {v : Value} {x : V S} {y : den S t} (hv : RepV C.E K w v x) (hd : dec C.E m t x = some y)
    (hf : Frz C.E K m x.owns) : RepV C.E K w v (encV C.E t y) := by
  have leaf : ∀ (t : Ty) (y : den S t), (∀ n, t ≠ .st n) → decLeaf m t x = some y → RepV C.E K w v (encV C.E t y) := by
    intro t y ht hd
    rw [leaf_enc C.E t y ht]
    exact .cell (decLeaf_rep h hv hd fun id g e => by subst e; exact hf)
  cases t with
  | st i => exact decSt_rep hE h hv hd hf
  | bool => exact leaf .bool y (fun n q => by cases q) hd
  | int k => exact leaf (.int k) y (fun n q => by cases q) hd
  | str => exact leaf .str y (fun n q => by cases q) hd
  | err => exact leaf .err y (fun n q => by cases q) hd
  | fn => exact leaf .fn y (fun n q => by cases q) hd
  | slice t => exact leaf (.slice t) y (fun n q => by cases q) hd
end
end Go.Lv
