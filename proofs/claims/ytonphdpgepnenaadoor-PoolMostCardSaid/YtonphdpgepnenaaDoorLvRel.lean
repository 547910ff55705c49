import Derived.Test.YtonphdpgepnenaaDoorLvCore
import Derived.Below
namespace Go.Lv
set_option linter.all false
open Go Go.RowKit

variable {S : Nat → Type}

/-- What is asked of the structs' table. -/
structure EnvOK (E : Env S) : Prop where
  typed : ∀ i x, (E.toC i x).map (·.t) = E.tys i
  leaf : ∀ i t, t ∈ E.tys i → ∀ n, t ≠ .st n
  back : ∀ i {α : Type} (d : (t : Ty) → α → Option (den S t)) (vs : List α) (x : S i), E.ofC i d vs = some x →
    vs.length = (E.tys i).length ∧ ∀ (j : Nat) (v : α) (c : Cell S), vs[j]? = some v → (E.toC i x)[j]? = some c → d c.t v = some c.x
  mono : ∀ i {α : Type} (d d' : (t : Ty) → α → Option (den S t)) (vs : List α) (x : S i), (∀ t v y, d t v = some y → d' t v = some y) → E.ofC i d vs = some x → E.ofC i d' vs = some x

def cellsOf (E : Env S) : (t : Ty) → den S t → List (Cell S)
  | .st i, x => E.toC i x
  | t, x => [⟨t, x⟩]

theorem cellsOf_len {E : Env S} (hE : EnvOK E) (t : Ty) (x : den S t) : (cellsOf E t x).length = tsize E t := by
  cases t <;> simp [cellsOf, tsize]
  rename_i i
  rw [← hE.typed i x]; simp

theorem elemCells_eq (E : Env S) (t : Ty) (x : den S t) : elemCells E t x = (cellsOf E t x).map fun c => .cell c.t c.x := by
  cases t <;> simp [elemCells, cellsOf]

/-- A plain value holds what is told. -/
inductive Rep (E : Env S) (σ : Nat → Nat) (w : World) : Value → (t : Ty) → den S t → Prop where
  | bool (b : Bool) : Rep E σ w (.bool b) .bool b
  | int (k : IntKind) (n : Int) : Rep E σ w (.int k n) (.int k) n
  | str (l : List UInt8) : Rep E σ w (.string ⟨l.toArray⟩) .str l
  | errNil : Rep E σ w .nilIface .err false
  | err (t : TypeId) (v : Value) : Rep E σ w (.iface t v) .err true
  | fn (f : Nat) : Rep E σ w (.func (.func f) #[] #[]) .fn f
  | nil (t : Ty) (a : Option Addr) (cap : Nat) : Rep E σ w (.slice a 0 cap) (.slice t) []
  | slice (t : Ty) (l : List (den S t)) (b off cap : Nat) (vs : Nat → Value) (hcap : l.length ≤ cap)
      (hst : off + l.length * tsize E t ≤ σ b)
      (hc : ∀ j, j < l.length * tsize E t → w.cell? ⟨b, off + j, none⟩ = some (vs j))
      (hr : ∀ (i : Nat) (x : den S t), l[i]? = some x → ∀ (j : Nat) (c : Cell S), (cellsOf E t x)[j]? = some c → Rep E σ w (vs (i * tsize E t + j)) c.t c.x) :
      Rep E σ w (.slice (some ⟨b, off, none⟩) l.length cap) (.slice t) l

theorem Rep.mono {E : Env S} {σ σ' : Nat → Nat} {w w' : World} (hσ : ∀ b, σ b ≤ σ' b) (hc : ∀ b o, o < σ b → w'.cell? ⟨b, o, none⟩ = w.cell? ⟨b, o, none⟩)
    {v : Value} {t : Ty} {x : den S t} (h : Rep E σ w v t x) : Rep E σ' w' v t x := by
  induction h with
  | bool b => exact .bool b
  | int k n => exact .int k n
  | str l => exact .str l
  | errNil => exact .errNil
  | err t v => exact .err t v
  | fn f => exact .fn f
  | nil t a c => exact .nil t a c
  | slice t l b off cap vs hcap hst hcl hr ih =>
    exact .slice t l b off cap vs hcap (Nat.le_trans hst (hσ b)) (fun j hj => (hc b _ (by omega)).trans (hcl j hj)) ih

/-- One cell's value: no aggregate, no tuple. -/
theorem Rep.one {E : Env S} {σ : Nat → Nat} {w : World} {v : Value} {t : Ty} {x : den S t} (h : Rep E σ w v t x) : v.oneCell' = true := by
  cases h <;> rfl

theorem Rep.bool_inv {E : Env S} {σ : Nat → Nat} {w : World} {v : Value} {b : Bool} (h : Rep E σ w v .bool b) : v = .bool b := by cases h; rfl
theorem Rep.int_inv {E : Env S} {σ : Nat → Nat} {w : World} {v : Value} {k : IntKind} {n : Int} (h : Rep E σ w v (.int k) n) : v = .int k n := by cases h; rfl
theorem Rep.str_inv {E : Env S} {σ : Nat → Nat} {w : World} {v : Value} {l : List UInt8} (h : Rep E σ w v .str l) : v = .string ⟨l.toArray⟩ := by cases h; rfl
theorem Rep.fn_inv {E : Env S} {σ : Nat → Nat} {w : World} {v : Value} {f : Nat} (h : Rep E σ w v .fn f) : v = .func (.func f) #[] #[] := by cases h; rfl
theorem Rep.st_inv {E : Env S} {σ : Nat → Nat} {w : World} {v : Value} {i : Nat} {x : S i} (h : Rep E σ w v (.st i) x) : False := by cases h

structure Gh where
  n : Nat
  ι : Nat → Nat
  hv : Nat → Value
  gen : Nat → Nat
  esz : Nat → Nat
  live : Nat → Bool
  σ : Nat → Nat
  σ0 : Option (Nat → Nat) := none

inductive RepV (E : Env S) (K : Gh) (w : World) : Value → V S → Prop where
  | cell {v : Value} {t : Ty} {x : den S t} (h : Rep E K.σ w v t x) : RepV E K w v (.cell t x)
  | full {a : Option Addr} {t : Ty} {l : List (den S t)} (h : Rep E K.σ w (.slice a l.length l.length) (.slice t) l) : RepV E K w (.slice a l.length l.length) (.full t l)
  | nilS (a : Option Addr) : RepV E K w (.slice a 0 0) .nilS
  | agg (cs : Array Value) (vs : List (V S)) (hs : cs.size = vs.length) (hj : ∀ (j : Nat) (c : Value) (v : V S), cs[j]? = some c → vs[j]? = some v → RepV E K w c v) : RepV E K w (.agg cs) (.agg vs)
  | ptr (id off : Nat) (v : Value) (hn : id < K.n) (hp : ∃ a, v = .pointer (some a)) (h : K.gen id = 0 → v = .pointer (some ⟨K.ι id, off, none⟩)) : RepV E K w v (.ptr id off)
  | own (id g : Nat) (v : Value) (hn : id < K.n) (hg : g ≤ K.gen id) (hp : ∃ a n c, v = .slice a n c) (h : K.gen id = g → v = K.hv id) : RepV E K w v (.own id g)
  | eptr (id g i off : Nat) (v : Value) (hn : id < K.n) (hg : g ≤ K.gen id) (hp : ∃ a, v = .pointer (some a)) (h : K.gen id = g → v = .pointer (some ⟨K.ι id, i * K.esz id + off, none⟩)) : RepV E K w v (.eptr id g i off)
  | ro (b off : Nat) (vs : List (V S)) (f : Nat → Value) (hst : off + vs.length ≤ K.σ b) (hc : ∀ j, j < vs.length → w.cell? ⟨b, off + j, none⟩ = some (f j))
      (hr : ∀ (j : Nat) (v : V S), vs[j]? = some v → RepV E K w (f j) v) : RepV E K w (.pointer (some ⟨b, off, none⟩)) (.ro vs)
  | clo (f : FuncId) (first caps : Array Value) (first' caps' : List (V S)) (h1 : first.size = first'.length) (h2 : caps.size = caps'.length)
      (hf : ∀ (j : Nat) (c : Value) (v : V S), first[j]? = some c → first'[j]? = some v → RepV E K w c v) (hc : ∀ (j : Nat) (c : Value) (v : V S), caps[j]? = some c → caps'[j]? = some v → RepV E K w c v) :
      RepV E K w (.func (.func f) first caps) (.clo f first' caps')
  | tup (cs : Array Value) (vs : List (V S)) (hs : cs.size = vs.length) (hj : ∀ (j : Nat) (c : Value) (v : V S), cs[j]? = some c → vs[j]? = some v → RepV E K w c v) : RepV E K w (.tuple cs) (.tup vs)
  | cmap (r : Nat) (es : Array MapEntry) (clock : Nat) (l : List (Int × V S)) (ix : Nat → Nat) (ky : Nat → Int) (hst : 0 < K.σ r) (hm : w.heap[r]? = some (.map es clock)) (hky : ∀ (i : Nat) (e : MapEntry), es[i]? = some e → e.key = .int .i64 (ky i))
      (hu : ∀ i j, i < es.size → j < es.size → ky i = ky j → i = j) (hix : ∀ j, j < l.length → ix j < es.size) (hk : ∀ (j : Nat) (p : Int × V S), l[j]? = some p → ky (ix j) = p.1) (hall : ∀ i, i < es.size → ∃ j, j < l.length ∧ ix j = i)
      (hv : ∀ (j : Nat) (e : MapEntry) (p : Int × V S), es[ix j]? = some e → l[j]? = some p → RepV E K w e.val p.2) :
      RepV E K w (.map (some r)) (.cmap l)
  | ifc (t : TypeId) : RepV E K w (.iface t (.agg #[])) (.ifc t)
  | mapr (id : Nat) (v : Value) (hn : id < K.n) (hp : ∃ a, v = .map (some a)) (h : K.gen id = 0 → v = .map (some (K.ι id))) : RepV E K w v (.mapr id)
  | undef (v : Value) : RepV E K w v .undef

/-- What a block is that may turn inside. -/
def keeps : Obj → Option Obj → Prop
  | .cells c _ _, x => ∃ c' t f, x = some (.cells c' t f) ∧ c'.size = c.size
  | o, x => x = some o
theorem keeps.of {o : Obj} {x : Option Obj} (h : x = some o) : keeps o x := by
  subst h
  cases o <;> first | rfl | exact ⟨_, _, _, rfl, rfl⟩
theorem keeps.trans {o : Obj} {x y : Option Obj} (h : keeps o x) (k : ∀ o', x = some o' → keeps o' y) : keeps o y := by
  cases o with
  | cells c t f =>
    obtain ⟨c', t', f', h1, h2⟩ := h
    obtain ⟨c2, t2, f2, k1, k2⟩ := k _ h1
    exact ⟨c2, t2, f2, k1, k2.trans h2⟩
  | _ => exact k _ h

structure Ext (K : Gh) (w : World) (K' : Gh) (w' : World) : Prop where
  n : K.n ≤ K'.n
  id : ∀ i, i < K.n → K.gen i ≤ K'.gen i ∧ (K'.gen i = K.gen i → K'.ι i = K.ι i ∧ K'.hv i = K.hv i ∧ K'.esz i = K.esz i)
  σ : ∀ b, K.σ b ≤ K'.σ b
  cell : ∀ b o, o < K.σ b → w'.cell? ⟨b, o, none⟩ = w.cell? ⟨b, o, none⟩
  map : ∀ b o, 0 < K.σ b → w.heap[b]? = some o → keeps o w'.heap[b]?
  σ0 : K.σ0 = none ∨ K'.σ0 = K.σ0

theorem Ext.refl (K : Gh) (w : World) : Ext K w K w := ⟨Nat.le_refl _, fun _ _ => ⟨Nat.le_refl _, fun _ => ⟨rfl, rfl, rfl⟩⟩, fun _ => Nat.le_refl _, fun _ _ _ => rfl, fun _ _ _ h => keeps.of h, .inr rfl⟩
theorem Ext.trans {K K' K'' : Gh} {w w' w'' : World} (h : Ext K w K' w') (h' : Ext K' w' K'' w'') : Ext K w K'' w'' where
  n := Nat.le_trans h.n h'.n
  id i hi := by
    obtain ⟨a, b⟩ := h.id i hi
    obtain ⟨c, d⟩ := h'.id i (Nat.lt_of_lt_of_le hi h.n)
    refine ⟨Nat.le_trans a c, fun e => ?_⟩
    have e1 : K'.gen i = K.gen i := by omega
    have e2 : K''.gen i = K'.gen i := by omega
    obtain ⟨p, q, r⟩ := b e1
    obtain ⟨p', q', r'⟩ := d e2
    exact ⟨p'.trans p, q'.trans q, r'.trans r⟩
  σ b := Nat.le_trans (h.σ b) (h'.σ b)
  cell b o ho := (h'.cell b o (Nat.lt_of_lt_of_le ho (h.σ b))).trans (h.cell b o ho)
  map b o hb hm := (h.map b o hb hm).trans fun o' e => h'.map b o' (Nat.lt_of_lt_of_le hb (h.σ b)) e
  σ0 := by
    rcases h.σ0 with q | q
    · exact .inl q
    · rcases h'.σ0 with r | r
      · exact .inl (q.symm.trans r)
      · exact .inr (r.trans q)

theorem RepV.mono {E : Env S} {K K' : Gh} {w w' : World} (hx : Ext K w K' w') {v : Value} {x : V S} (h : RepV E K w v x) : RepV E K' w' v x := by
  induction h with
  | cell h => exact .cell (h.mono hx.σ hx.cell)
  | full h => exact .full (h.mono hx.σ hx.cell)
  | nilS a => exact .nilS a
  | agg cs vs hs hj ih => exact .agg cs vs hs ih
  | ptr id off v hn hp h =>
    refine .ptr id off v (Nat.lt_of_lt_of_le hn hx.n) hp fun e => ?_
    obtain ⟨a, b⟩ := hx.id id hn
    have e1 : K.gen id = 0 := by omega
    rw [(b (by omega)).1]; exact h e1
  | own id g v hn hg hp h =>
    obtain ⟨a, b⟩ := hx.id id hn
    refine .own id g v (Nat.lt_of_lt_of_le hn hx.n) (Nat.le_trans hg a) hp fun e => ?_
    have e1 : K.gen id = g := by omega
    rw [(b (by omega)).2.1]; exact h e1
  | eptr id g i off v hn hg hp h =>
    obtain ⟨a, b⟩ := hx.id id hn
    refine .eptr id g i off v (Nat.lt_of_lt_of_le hn hx.n) (Nat.le_trans hg a) hp fun e => ?_
    have e1 : K.gen id = g := by omega
    obtain ⟨p, _, q⟩ := b (by omega)
    rw [p, q]; exact h e1
  | ro b off vs f hst hc hr ih =>
    exact .ro b off vs f (Nat.le_trans hst (hx.σ b)) (fun j hj => (hx.cell b _ (by omega)).trans (hc j hj)) ih
  | clo f a b a' b' h1 h2 hf hc ih1 ih2 => exact .clo f a b a' b' h1 h2 ih1 ih2
  | tup cs vs hs hj ih => exact .tup cs vs hs ih
  | cmap r es cl l ix ky hst hm hky hu hix hk hall hv ih => exact .cmap r es cl l ix ky (Nat.lt_of_lt_of_le hst (hx.σ r)) (hx.map r _ hst hm) hky hu hix hk hall ih
  | ifc t => exact .ifc t
  | mapr id v hn hp h =>
    refine .mapr id v (Nat.lt_of_lt_of_le hn hx.n) hp fun e => ?_
    obtain ⟨a, b⟩ := hx.id id hn
    have e1 : K.gen id = 0 := by omega
    rw [(b (by omega)).1]; exact h e1
  | undef v => exact .undef v

/-- The ghost that holds no object. -/
def gh0 (σ : Nat → Nat) : Gh := { n := 0, ι := fun _ => 0, hv := fun _ => .nilIface, gen := fun _ => 0, esz := fun _ => 0, live := fun _ => false, σ := σ }
theorem gh0_ext {σ σ' : Nat → Nat} {w w' : World} (h1 : ∀ b, σ b ≤ σ' b) (h2 : ∀ b o, o < σ b → w'.cell? ⟨b, o, none⟩ = w.cell? ⟨b, o, none⟩) (h3 : ∀ b o, 0 < σ b → w.heap[b]? = some o → keeps o w'.heap[b]?) :
    Ext (gh0 σ) w (gh0 σ') w' := ⟨Nat.le_refl _, fun i hi => absurd hi (Nat.not_lt_zero i), h1, h2, h3, .inl rfl⟩
theorem Ext.gh0 {K K' : Gh} {w w' : World} (h : Ext K w K' w') : Ext (gh0 K.σ) w (gh0 K'.σ) w' := gh0_ext h.σ h.cell h.map
theorem gh0_to (K : Gh) (w : World) : Ext (gh0 K.σ) w K w := ⟨Nat.zero_le _, fun i hi => absurd hi (Nat.not_lt_zero i), fun _ => Nat.le_refl _, fun _ _ _ => rfl, fun _ _ _ h => keeps.of h, .inl rfl⟩

def GlobOK (C : Ctx S) (σ : Nat → Nat) (w : World) : Prop := ∀ g cs, C.G g = some cs → RepV C.E (gh0 σ) w (.pointer (some ⟨g, 0, none⟩)) (.ro cs) ∧ 0 < σ g ∧ ∃ c t f, w.heap[g]? = some (.cells c t f) ∧ c.size = cs.length
theorem GlobOK.mono {C : Ctx S} {K K' : Gh} {w w' : World} (h : GlobOK C K.σ w) (hx : Ext K w K' w') : GlobOK C K'.σ w' := by
  intro g cs hg
  obtain ⟨h1, h2, c, t, f, h3, h4⟩ := h g cs hg
  obtain ⟨c', t', f', k1, k2⟩ := hx.map g _ h2 h3
  exact ⟨h1.mono hx.gh0, Nat.lt_of_lt_of_le h2 (hx.σ g), c', t', f', k1, k2.trans h4⟩

def ArrOK (E : Env S) (K : Gh) (w : World) (B : Nat) (e : TypeId) (t : Ty) (l : List (den S t)) (fz : Bool) (hv : Value) (blk : Nat) (live : Bool) : Prop :=
  (live = false ∧ l = [] ∧ ∃ a, hv = .slice a 0 0) ∨
  (live = true ∧ ∃ (c : Array Value) (cap : Nat), hv = .slice (some ⟨blk, 0, none⟩) l.length cap ∧ l.length ≤ cap ∧ cap ≤ maxLen ∧ c.size = cap * tsize E t ∧ w.heap[blk]? = some (.cells c e (0, 0)) ∧
    (∀ (i : Nat) (x : den S t), l[i]? = some x → ∀ (j : Nat) (cl : Cell S), (cellsOf E t x)[j]? = some cl → ∃ v, c[i * tsize E t + j]? = some v ∧ Rep E K.σ w v cl.t cl.x) ∧
    K.σ blk ≤ l.length * tsize E t ∧ (fz = false → K.σ blk = 0) ∧ B ≤ blk)

/-- The entries of an own map of numbers and truths. -/
def MapOK : (kt vt : Ty) → Array MapEntry → List (den S kt × den S vt) → Prop
  | .int k, .bool, es, l => es.size = List.length (α := Int × Bool) l ∧ ∀ (j : Nat) (e : MapEntry) (p : Int × Bool), es[j]? = some e → (show List (Int × Bool) from l)[j]? = some p → e.key = .int k p.1 ∧ e.val = .bool p.2
  | _, _, _, _ => False

def ObjOK (E : Env S) (K : Gh) (w : World) (B : Nat) (i : Nat) : Ob S → Prop
  | .box cs fz => K.gen i = 0 ∧ K.live i = true ∧ ∃ c e, w.heap[K.ι i]? = some (.cells c e (0, 0)) ∧ c.size = cs.length ∧
      (∀ (j : Nat) (v : Value) (x : V S), c[j]? = some v → cs[j]? = some x → RepV E K w v x) ∧ (fz = false → K.σ (K.ι i) = 0) ∧ B ≤ K.ι i
  | .arr e t l g fz => K.gen i = g ∧ K.esz i = tsize E t ∧ ArrOK E K w B e t l fz (K.hv i) (K.ι i) (K.live i)
  | .map kt vt l => K.gen i = 0 ∧ K.live i = true ∧ ∃ es clock, w.heap[K.ι i]? = some (.map es clock) ∧ MapOK kt vt es l ∧ K.σ (K.ι i) = 0 ∧ B ≤ K.ι i

structure RelM (C : Ctx S) (K : Gh) (w : World) (B : Nat) (m : Mem S) : Prop where
  n : K.n = m.length
  ob : ∀ i o, m[i]? = some o → ObjOK C.E K w B i o
  inj : ∀ i j, i < K.n → j < K.n → K.live i = true → K.live j = true → K.ι i = K.ι j → i = j
  new : ∀ b, w.heap.size ≤ b → K.σ b = 0
  glob : GlobOK C K.σ w
  base : B ≤ w.heap.size
  /-- What was held at the start is held as it was. -/
  old : ∃ f, K.σ0 = some f ∧ ∀ b, b < B → K.σ b = f b

/-- At one object nothing of the ghost turns. -/
def Gh.at (K K' : Gh) (i : Nat) : Prop := K'.ι i = K.ι i ∧ K'.hv i = K.hv i ∧ K'.gen i = K.gen i ∧ K'.esz i = K.esz i ∧ K'.live i = K.live i

theorem ObjOK.mono {E : Env S} {K K' : Gh} {w w' : World} {B i : Nat} {o : Ob S} (h : ObjOK E K w B i o) (hx : Ext K w K' w') (ha : K.at K' i)
    (hb : K.live i = true → w'.heap[K.ι i]? = w.heap[K.ι i]?) (hσ : K.live i = true → K'.σ (K.ι i) = K.σ (K.ι i)) : ObjOK E K' w' B i o := by
  obtain ⟨a1, a2, a3, a4, a5⟩ := ha
  cases o with
  | box cs fz =>
    obtain ⟨h0, hl, c, e, h1, h2, h3, h4, h5⟩ := h
    refine ⟨a3.trans h0, a5.trans hl, c, e, ?_, h2, fun j v x p q => (h3 j v x p q).mono hx, fun f => ?_, ?_⟩
    · rw [a1, hb hl]; exact h1
    · rw [a1, hσ hl]; exact h4 f
    · rw [a1]; exact h5
  | arr e t l g fz =>
    obtain ⟨h0, h1, h2⟩ := h
    refine ⟨a3.trans h0, a4.trans h1, ?_⟩
    rw [a2, a1, a5]
    rcases h2 with ⟨hl, h⟩ | ⟨hl, c, cap, p1, p2, p3, p4, p5, p6, p7, p8, p9⟩
    · exact .inl ⟨hl, h⟩
    · refine .inr ⟨hl, c, cap, p1, p2, p3, p4, (hb hl).trans p5, ?_, ?_, ?_, p9⟩
      · intro i x hi j cl hj
        obtain ⟨v, q1, q2⟩ := p6 i x hi j cl hj
        exact ⟨v, q1, q2.mono hx.σ hx.cell⟩
      · rw [hσ hl]; exact p7
      · rw [hσ hl]; exact p8
  | map kt vt l =>
    obtain ⟨h0, hl, es, cl, h1, h2, h3, h4⟩ := h
    exact ⟨a3.trans h0, a5.trans hl, es, cl, by rw [a1, hb hl]; exact h1, h2, by rw [a1, hσ hl]; exact h3, by rw [a1]; exact h4⟩

/-- The world grows, or turns beside what is held; the ghost's stable parts grow in new blocks alone. -/
theorem RelM.frame {C : Ctx S} {K K' : Gh} {w w' : World} {B : Nat} {m : Mem S} (h : RelM C K w B m) (hx : Ext K w K' w') (hn : K'.n = K.n) (ha : ∀ i, i < K.n → K.at K' i)
    (hb : ∀ i, i < K.n → K.live i = true → w'.heap[K.ι i]? = w.heap[K.ι i]?) (hσ : ∀ i, i < K.n → K.live i = true → K'.σ (K.ι i) = K.σ (K.ι i))
    (hnew : ∀ b, w'.heap.size ≤ b → K'.σ b = 0) (hs : w.heap.size ≤ w'.heap.size) (hold : ∀ b, b < B → K'.σ b = K.σ b) : RelM C K' w' B m where
  n := hn.trans h.n
  ob i o hi := by
    have hl : i < K.n := by rw [h.n]; exact (List.getElem?_eq_some_iff.1 hi).1
    exact (h.ob i o hi).mono hx (ha i hl) (hb i hl) (hσ i hl)
  inj i j hi hj li lj e := by
    rw [hn] at hi hj
    obtain ⟨a1, _, _, _, a5⟩ := ha i hi
    obtain ⟨b1, _, _, _, b5⟩ := ha j hj
    exact h.inj i j hi hj (a5 ▸ li) (b5 ▸ lj) (by rw [← a1, ← b1]; exact e)
  new := hnew
  glob := h.glob.mono hx
  base := Nat.le_trans h.base hs
  old := by
    obtain ⟨f, h1, h2⟩ := h.old
    refine ⟨f, ?_, fun b hb => (hold b hb).trans (h2 b hb)⟩
    rcases hx.σ0 with q | q
    · rw [h1] at q; cases q
    · exact q.trans h1
end Go.Lv
