import Derived.Test.YtonphdpgepnenaaDoorLvRel
import Derived.Laws.MakeOwn
import Derived.Laws.OwnMore
import Derived.Tactics
namespace Go.Lv
set_option linter.all false
open Go Go.RowKit
variable {S : Nat → Type}

theorem RepV.getD {E : Env S} {K : Gh} {w : World} {cs : Array Value} {vs : List (V S)} (hs : cs.size = vs.length)
    (hj : ∀ (j : Nat) (c : Value) (v : V S), cs[j]? = some c → vs[j]? = some v → RepV E K w c v) (j : Nat) : RepV E K w (cs.getD j Go.undef) (vs.getD j .undef) := by
  by_cases h : j < cs.size
  · have h' : j < vs.length := hs ▸ h
    have := hj j cs[j] vs[j] (by simp [h]) (by simp [h'])
    simpa [Array.getD, h, List.getD, h'] using this
  · have h' : ¬ j < vs.length := hs ▸ h
    simp only [List.getD, List.getElem?_eq_none (Nat.le_of_not_lt h'), Option.getD_none]
    exact .undef _

structure RelS (C : Ctx S) (K : Gh) (w : World) (B : Nat) (s : St S) (a : Act) : Prop where
  size : a.tmps.size = s.tmps.length
  tmps : ∀ (j : Nat) (c : Value) (v : V S), a.tmps[j]? = some c → s.tmps[j]? = some v → RepV C.E K w c v
  defers : a.defers = []
  mem : RelM C K w B s.mem

theorem ofConst_rep (E : Env S) (K : Gh) (w : World) (v : Value) : RepV E K w v (ofConst v) := by
  have one : ∀ u : Value, RepV E K w u (match u with
    | .bool b => .cell .bool b
    | .int k n => .cell (.int k) n
    | .string s => .cell .str s.data.toList
    | .slice none 0 0 => .nilS
    | .nilIface => .cell .err false
    | _ => .undef) := by
    intro u
    split
    · exact .cell (.bool _)
    · exact .cell (.int _ _)
    · rename_i s; have := Rep.str (E := E) (σ := K.σ) (w := w) s.data.toList; exact .cell (by simpa using this)
    · exact .nilS none
    · exact .cell .errNil
    · exact .undef _
  unfold ofConst
  split
  · exact .cell (.bool _)
  · exact .cell (.int _ _)
  · rename_i s; have := Rep.str (E := E) (σ := K.σ) (w := w) s.data.toList; exact .cell (by simpa using this)
  · exact .nilS none
  · exact .cell .errNil
  · rename_i cs
    refine .agg cs _ (by simp) fun j c v hc hv => ?_
    rw [List.getElem?_map, Array.getElem?_toList, hc] at hv
    simp only [Option.map_some, Option.some.injEq] at hv
    subst hv
    exact one c
  · exact .undef _

theorem RelS.ev {C : Ctx S} {K : Gh} {w : World} {B : Nat} {s : St S} {a : Act} (h : RelS C K w B s a) (x : Operand) : RepV C.E K w (a.eval x) (s.ev C x) := by
  cases x with
  | tmp t => exact RepV.getD h.size h.tmps t
  | const v => exact ofConst_rep C.E K w v
  | global g =>
    simp only [Act.eval, St.ev]
    split
    · rename_i cs hg; exact (h.mem.glob g cs hg).1.mono (gh0_to K w)
    · exact .undef _
  | func f => exact .clo f #[] #[] [] [] rfl rfl (by simp) (by simp)

/-- A value's cells. -/
theorem RepV.cells {E : Env S} {K : Gh} {w : World} {v : Value} {x : V S} (h : RepV E K w v x) (hd : x.defd = true) :
    v.cells.size = x.cells.length ∧ ∀ (j : Nat) (c : Value) (y : V S), v.cells[j]? = some c → x.cells[j]? = some y → RepV E K w c y := by
  have one : ∀ {v : Value} {x : V S}, RepV E K w v x → v.cells = #[v] → x.cells = [x] →
      v.cells.size = x.cells.length ∧ ∀ (j : Nat) (c : Value) (y : V S), v.cells[j]? = some c → x.cells[j]? = some y → RepV E K w c y := by
    intro v x h hv hx
    rw [hv, hx]
    refine ⟨rfl, fun j c y hc hy => ?_⟩
    cases j with
    | zero => simp at hc hy; subst hc; subst hy; exact h
    | succ j => simp at hc
  have plain : ∀ {v : Value} {t : Ty} {x : den S t}, Rep E K.σ w v t x → v.cells = #[v] := by intro v t x h; cases h <;> rfl
  cases h with
  | agg cs vs hs hj => exact ⟨hs, hj⟩
  | mapr id v hn hp h => obtain ⟨a, rfl⟩ := hp; exact one (.mapr id _ hn ⟨a, rfl⟩ h) rfl rfl
  | undef v => simp [V.defd] at hd
  | tup cs vs hs hj => simp [V.defd] at hd
  | cell h => exact one (.cell h) (plain h) rfl
  | full h => exact one (.full h) rfl rfl
  | nilS a => exact one (.nilS a) rfl rfl
  | ptr id off v hn hp h => obtain ⟨a, rfl⟩ := hp; exact one (.ptr id off _ hn ⟨a, rfl⟩ h) rfl rfl
  | own id g v hn hg hp h => obtain ⟨a, n, c, rfl⟩ := hp; exact one (.own id g _ hn hg ⟨a, n, c, rfl⟩ h) rfl rfl
  | eptr id g i off v hn hg hp h => obtain ⟨a, rfl⟩ := hp; exact one (.eptr id g i off _ hn hg ⟨a, rfl⟩ h) rfl rfl
  | ro b off vs f hst hc hr => exact one (.ro b off vs f hst hc hr) rfl rfl
  | clo f a b a' b' h1 h2 hf hc => exact one (.clo f a b a' b' h1 h2 hf hc) rfl rfl
  | cmap r es cl l ix ky hst hm hky hu hix hk hall hv => exact one (.cmap r es cl l ix ky hst hm hky hu hix hk hall hv) rfl rfl
  | ifc t => exact one (.ifc t) rfl rfl

theorem RepV.oneCell {E : Env S} {K : Gh} {w : World} {v : Value} {x : V S} (h : RepV E K w v x) (hd : x.one = true) : v.oneCell' = true := by
  cases h with
  | cell h => exact h.one
  | full h => rfl
  | nilS a => rfl
  | ptr id off v hn hp h => obtain ⟨a, rfl⟩ := hp; rfl
  | own id g v hn hg hp h => obtain ⟨a, n, c, rfl⟩ := hp; rfl
  | eptr id g i off v hn hg hp h => obtain ⟨a, rfl⟩ := hp; rfl
  | ro => rfl
  | clo => rfl
  | cmap => rfl
  | ifc => rfl
  | agg => simp [V.one] at hd
  | tup => simp [V.one] at hd
  | mapr id v hn hp h => obtain ⟨a, rfl⟩ := hp; rfl
  | undef => simp [V.one] at hd

/-- What is told of a new block. -/
def Gh.push (K : Gh) (b : Nat) (hv : Value) (esz : Nat) (live : Bool) : Gh :=
  { K with n := K.n + 1, ι := fun i => if i = K.n then b else K.ι i, hv := fun i => if i = K.n then hv else K.hv i, gen := fun i => if i = K.n then 0 else K.gen i,
           esz := fun i => if i = K.n then esz else K.esz i, live := fun i => if i = K.n then live else K.live i }

theorem Gh.push_at (K : Gh) (b : Nat) (hv : Value) (esz : Nat) (live : Bool) {i : Nat} (h : i < K.n) : K.at (K.push b hv esz live) i := by
  have : i ≠ K.n := by omega
  simp [Gh.at, Gh.push, this]

theorem Gh.push_ext {K : Gh} {w w' : World} (b : Nat) (hv : Value) (esz : Nat) (live : Bool) (hc : ∀ b o, o < K.σ b → w'.cell? ⟨b, o, none⟩ = w.cell? ⟨b, o, none⟩)
    (hm : ∀ b o, 0 < K.σ b → w.heap[b]? = some o → keeps o w'.heap[b]?) : Ext K w (K.push b hv esz live) w' where
  n := Nat.le_succ _
  id i hi := by
    obtain ⟨a1, a2, a3, a4, _⟩ := K.push_at b hv esz live hi
    exact ⟨Nat.le_of_eq a3.symm, fun _ => ⟨a1, a2, a4⟩⟩
  σ _ := Nat.le_refl _
  cell := hc
  map := hm
  σ0 := .inr rfl

/-- A new object. -/
theorem RelM.push {C : Ctx S} {K : Gh} {w w' : World} {B : Nat} {m : Mem S} (h : RelM C K w B m) {b : Nat} {hv : Value} {esz : Nat} {live : Bool} {o : Ob S}
    (hs : w.heap.size ≤ w'.heap.size) (hb : ∀ k, k < w.heap.size → w'.heap[k]? = w.heap[k]?) (hlive : live = true → w.heap.size ≤ b)
    (ho : ObjOK C.E (K.push b hv esz live) w' B K.n o) : RelM C (K.push b hv esz live) w' B (m ++ [o]) ∧ Ext K w (K.push b hv esz live) w' := by
  have hcell : ∀ b o, o < K.σ b → w'.cell? ⟨b, o, none⟩ = w.cell? ⟨b, o, none⟩ := by
    intro b o ho
    by_cases hbb : b < w.heap.size
    · exact World.cell?_of_block (hb b hbb)
    · rw [h.new b (by omega)] at ho; omega
  have hmap : ∀ b o, 0 < K.σ b → w.heap[b]? = some o → keeps o w'.heap[b]? := by
    intro b ob h0 he
    have hbb : b < w.heap.size := by
      rcases Nat.lt_or_ge b w.heap.size with q | q
      · exact q
      · rw [h.new b q] at h0; omega
    rw [hb b hbb]; exact keeps.of he
  have hx : Ext K w (K.push b hv esz live) w' := Gh.push_ext b hv esz live hcell hmap
  have hblk : ∀ i, i < K.n → K.live i = true → K.ι i < w.heap.size := by
    intro i hi hl
    have hi' : i < m.length := h.n ▸ hi
    have := h.ob i m[i] (by simp [hi'])
    cases hm : m[i] with
    | box cs fz =>
      rw [hm] at this
      obtain ⟨_, _, c, e, h1, _⟩ := this
      rcases Nat.lt_or_ge (K.ι i) w.heap.size with q | q
      · exact q
      · simp [Array.getElem?_eq_none q] at h1
    | arr e t l g fz =>
      rw [hm] at this
      obtain ⟨_, _, h2⟩ := this
      rcases h2 with ⟨q, _⟩ | ⟨_, c, cap, _, _, _, _, h1, _⟩
      · rw [q] at hl; cases hl
      · rcases Nat.lt_or_ge (K.ι i) w.heap.size with q | q
        · exact q
        · simp [Array.getElem?_eq_none q] at h1
    | map kt vt l =>
      rw [hm] at this
      obtain ⟨_, _, es, cl, h1, _⟩ := this
      rcases Nat.lt_or_ge (K.ι i) w.heap.size with q | q
      · exact q
      · simp [Array.getElem?_eq_none q] at h1
  refine ⟨⟨?_, ?_, ?_, ?_, ?_, Nat.le_trans h.base hs, h.old⟩, hx⟩
  · simp [Gh.push, h.n]
  · intro i o' hi
    by_cases hlt : i < m.length
    · rw [List.getElem?_append_left hlt] at hi
      have hin : i < K.n := h.n ▸ hlt
      exact (h.ob i o' hi).mono hx (K.push_at b hv esz live hin) (fun hl => hb _ (hblk i hin hl)) (fun _ => rfl)
    · have : i = K.n := by
        have := (List.getElem?_eq_some_iff.1 hi).1
        simp at this
        rw [h.n]; omega
      subst this
      rw [List.getElem?_append_right (by rw [h.n]; exact Nat.le_refl _), h.n] at hi
      simp at hi
      subst hi
      exact ho
  · intro i j hi hj li lj e
    simp only [Gh.push] at hi hj li lj e
    by_cases hin : i = K.n <;> by_cases hjn : j = K.n
    · omega
    · simp only [hin, hjn, if_true, if_false] at li lj e
      have := hblk j (by omega) lj
      have := hlive li
      omega
    · simp only [hin, hjn, if_true, if_false] at li lj e
      have := hblk i (by omega) li
      have := hlive lj
      omega
    · simp only [hin, hjn, if_false] at li lj e
      exact h.inj i j (by omega) (by omega) li lj e
  · intro b' hb'
    exact h.new b' (Nat.le_trans hs hb')
  · intro g cs hg
    exact h.glob.mono hx g cs hg

theorem RelM.blk {C : Ctx S} {K : Gh} {w : World} {B : Nat} {m : Mem S} (h : RelM C K w B m) {i : Nat} (hi : i < K.n) (hl : K.live i = true) : K.ι i < w.heap.size := by
  have hi' : i < m.length := h.n ▸ hi
  have := h.ob i m[i] (by simp [hi'])
  cases hm : m[i] with
  | box cs fz =>
    rw [hm] at this
    obtain ⟨_, _, c, e, h1, _⟩ := this
    rcases Nat.lt_or_ge (K.ι i) w.heap.size with q | q
    · exact q
    · simp [Array.getElem?_eq_none q] at h1
  | arr e t l g fz =>
    rw [hm] at this
    obtain ⟨_, _, h2⟩ := this
    rcases h2 with ⟨q, _⟩ | ⟨_, c, cap, _, _, _, _, h1, _⟩
    · rw [q] at hl; cases hl
    · rcases Nat.lt_or_ge (K.ι i) w.heap.size with q | q
      · exact q
      · simp [Array.getElem?_eq_none q] at h1
  | map kt vt l =>
    rw [hm] at this
    obtain ⟨_, _, es, cl, h1, _⟩ := this
    rcases Nat.lt_or_ge (K.ι i) w.heap.size with q | q
    · exact q
    · simp [Array.getElem?_eq_none q] at h1

theorem RelM.above {C : Ctx S} {K : Gh} {w : World} {B : Nat} {m : Mem S} (h : RelM C K w B m) {i : Nat} (hi : i < K.n) (hl : K.live i = true) : B ≤ K.ι i := by
  have hi' : i < m.length := h.n ▸ hi
  have := h.ob i m[i] (by simp [hi'])
  cases hm : m[i] with
  | box cs fz =>
    rw [hm] at this
    obtain ⟨_, _, c, e, _, _, _, _, h1⟩ := this
    exact h1
  | arr e t l g fz =>
    rw [hm] at this
    obtain ⟨_, _, h2⟩ := this
    rcases h2 with ⟨q, _⟩ | ⟨_, c, cap, _, _, _, _, _, _, _, _, h1⟩
    · rw [q] at hl; cases hl
    · exact h1
  | map kt vt l => rw [hm] at this; obtain ⟨_, _, es, cl, _, _, _, h1⟩ := this; exact h1

/-- One object turns, in its own block or in a new one. -/
theorem RelM.set {C : Ctx S} {K K' : Gh} {w w' : World} {B : Nat} {m : Mem S} (h : RelM C K w B m) {i : Nat} {o : Ob S} (hi : i < K.n) (hx : Ext K w K' w') (hn : K'.n = K.n)
    (ha : ∀ j, j < K.n → j ≠ i → K.at K' j) (hσ : ∀ b, K'.σ b = K.σ b ∨ (K.live i = true ∧ b = K.ι i))
    (hb : ∀ k, k < w.heap.size → (K.live i = true → k ≠ K.ι i) → w'.heap[k]? = w.heap[k]?) (hs : w.heap.size ≤ w'.heap.size)
    (hι : K'.live i = true → (K.live i = true ∧ K'.ι i = K.ι i) ∨ w.heap.size ≤ K'.ι i)
    (hnew : ∀ b, w'.heap.size ≤ b → K'.σ b = 0) (ho : ObjOK C.E K' w' B i o) : RelM C K' w' B (m.set i o) where
  n := by rw [hn, h.n]; simp
  ob j o' hj := by
    by_cases e : j = i
    · subst e
      rw [List.getElem?_set_self (by rw [← h.n]; exact hi)] at hj
      cases hj; exact ho
    · rw [List.getElem?_set_ne (fun q => e q.symm)] at hj
      have hjn : j < K.n := by rw [h.n]; exact (List.getElem?_eq_some_iff.1 hj).1
      refine (h.ob j o' hj).mono hx (ha j hjn e) (fun hl => hb _ (h.blk hjn hl) fun hli q => e (h.inj j i hjn hi hl hli q)) (fun hl => ?_)
      rcases hσ (K.ι j) with q | ⟨hli, q⟩
      · exact q
      · exact absurd (h.inj j i hjn hi hl hli q) e
  inj j k hj hk lj lk e := by
    rw [hn] at hj hk
    by_cases e1 : j = i <;> by_cases e2 : k = i
    · omega
    · subst e1
      obtain ⟨b1, _, _, _, b5⟩ := ha k hk e2
      rw [b5] at lk
      rcases hι lj with ⟨q1, q2⟩ | q
      · exact h.inj j k hj hk q1 lk (by rw [← q2, e, b1])
      · have := h.blk hk lk; rw [e, b1] at q; omega
    · subst e2
      obtain ⟨b1, _, _, _, b5⟩ := ha j hj e1
      rw [b5] at lj
      rcases hι lk with ⟨q1, q2⟩ | q
      · exact h.inj j k hj hk lj q1 (by rw [← q2, ← e, b1])
      · have := h.blk hj lj; rw [← e, b1] at q; omega
    · obtain ⟨b1, _, _, _, b5⟩ := ha j hj e1
      obtain ⟨c1, _, _, _, c5⟩ := ha k hk e2
      exact h.inj j k hj hk (b5 ▸ lj) (c5 ▸ lk) (by rw [← b1, ← c1]; exact e)
  new := hnew
  glob := h.glob.mono hx
  base := Nat.le_trans h.base hs
  old := by
    obtain ⟨f, h1, h2⟩ := h.old
    refine ⟨f, ?_, fun b hb => ?_⟩
    · rcases hx.σ0 with q | q
      · rw [h1] at q; cases q
      · exact q.trans h1
    · rcases hσ b with q | ⟨q1, q2⟩
      · exact q.trans (h2 b hb)
      · have := h.above hi q1
        omega
end Go.Lv
