import Derived.Test.YtonphdpgepnenaaDoorLvKit
namespace Go.Lv
set_option linter.all false
open Go Go.RowKit
variable {S : Nat → Type}

/-! What a state is turned to at a loop's head. -/
section
variable (m : Mem S) (kp : Nat → Bool)
def conv0 : V S → V S
  | .own id g => bif kp id then (match m[id]? with
    | some (.arr _ _ _ g' _) => bif Nat.beq g g' then .own id 0 else .undef
    | _ => .undef) else .undef
  | .ptr id off => bif kp id then (match m[id]? with
    | some (.box _ _) => .ptr id off
    | _ => .undef) else .undef
  | .cell t x => .cell t x
  | .full t l => .full t l
  | .nilS => .nilS
  | .mapr id => bif kp id then (match m[id]? with
    | some (.map _ _ _) => .mapr id
    | _ => .undef) else .undef
  | _ => .undef
def convL : V S → V S
  | .agg cs => .agg (cs.map (conv0 m kp))
  | .clo f a b => .clo f (a.map (conv0 m kp)) (b.map (conv0 m kp))
  | v => conv0 m kp v
def convOb (i : Nat) : Ob S → Ob S
  | .box cs fz => .box (bif kp i then cs.map (convL m kp) else cs.map fun _ => .undef) fz
  | .arr e t l _ fz => bif kp i then .arr e t l 0 fz else .arr e t [] 0 fz
  | .map k v l => bif kp i then .map k v l else .arr 0 .bool [] 0 true
def convM : Nat → Mem S → Mem S
  | _, [] => []
  | i, o :: r => convOb m kp i o :: convM (i + 1) r
def convT (sl : Nat → Bool) : Nat → List (V S) → List (V S)
  | _, [] => []
  | i, v :: r => (bif sl i then convL m kp v else .undef) :: convT sl (i + 1) r
end

theorem convM_get (m : Mem S) (kp : Nat → Bool) : ∀ (l : Mem S) (i j : Nat), (convM m kp i l)[j]? = (l[j]?).map (convOb m kp (i + j))
  | [], i, j => by simp [convM]
  | o :: r, i, 0 => by simp [convM]
  | o :: r, i, j + 1 => by simp only [convM, List.getElem?_cons_succ]; rw [convM_get m kp r (i + 1) j]; congr 2; omega
theorem convM_len (m : Mem S) (kp : Nat → Bool) : ∀ (l : Mem S) (i : Nat), (convM m kp i l).length = l.length
  | [], _ => rfl
  | o :: r, i => by simp [convM, convM_len m kp r (i + 1)]
theorem convT_get (m : Mem S) (kp sl : Nat → Bool) : ∀ (l : List (V S)) (i j : Nat), (convT m kp sl i l)[j]? = (l[j]?).map fun v => bif sl (i + j) then convL m kp v else .undef
  | [], i, j => by simp [convT]
  | o :: r, i, 0 => by simp [convT]
  | o :: r, i, j + 1 => by simp only [convT, List.getElem?_cons_succ]; rw [convT_get m kp sl r (i + 1) j]; congr 2; funext v; rw [show i + 1 + j = i + (j + 1) by omega]
theorem convT_len (m : Mem S) (kp sl : Nat → Bool) : ∀ (l : List (V S)) (i : Nat), (convT m kp sl i l).length = l.length
  | [], _ => rfl
  | o :: r, i => by simp [convT, convT_len m kp sl r (i + 1)]

section
variable {C : Ctx S} {K : Gh} {w : World} {B : Nat} {m : Mem S} {kp : Nat → Bool}

def boxAt (m : Mem S) (i : Nat) : Bool := match m[i]? with
  | some (.box _ _) => true
  | _ => false
def mapObj (m : Mem S) (i : Nat) : Bool := match m[i]? with
  | some (.map _ _ _) => true
  | _ => false
def Gh.turn (K : Gh) (m : Mem S) (objs : Nat) (kp : Nat → Bool) : Gh :=
  { n := min objs m.length, ι := K.ι, hv := fun i => bif kp i then K.hv i else .slice none 0 0, gen := fun _ => 0, esz := fun i => bif mapObj m i then 1 else K.esz i, live := fun i => bif kp i || boxAt m i then K.live i else false, σ := K.σ, σ0 := K.σ0 }

theorem conv0_rep (h : RelM C K w B m) {objs : Nat} (hk : ∀ i, kp i = true → i < objs) {v : Value} {x : V S} (hv : RepV C.E K w v x) : RepV C.E (K.turn m objs kp) w v (conv0 m kp x) := by
  cases hv with
  | own id g v hn hg hp hh =>
    simp only [conv0]
    cases hkp : kp id with
    | false => exact .undef _
    | true =>
      simp only [cond_true]
      split
      · rename_i e t l g' fz hm
        cases hb : Nat.beq g g' with
        | false => exact .undef _
        | true =>
          have := Nat.eq_of_beq_eq_true hb
          subst this
          obtain ⟨h1, _, _⟩ := h.ob id _ hm
          refine .own id 0 v ?_ (Nat.zero_le _) hp fun _ => ?_
          · simp only [Gh.turn]; exact Nat.lt_min.2 ⟨hk id hkp, (List.getElem?_eq_some_iff.1 hm).1⟩
          · simp only [Gh.turn, hkp, cond_true]; exact hh h1
      · exact .undef _
  | ptr id off v hn hp hh =>
    simp only [conv0]
    cases hkp : kp id with
    | false => exact .undef _
    | true =>
      simp only [cond_true]
      split
      · rename_i cs fz hm
        obtain ⟨h1, _⟩ := h.ob id _ hm
        exact .ptr id off v (by simp only [Gh.turn]; exact Nat.lt_min.2 ⟨hk id hkp, (List.getElem?_eq_some_iff.1 hm).1⟩) hp fun _ => hh h1
      · exact .undef _
  | cell h => exact .cell h
  | full h => exact .full h
  | nilS a => exact .nilS a
  | agg => exact .undef _
  | eptr => exact .undef _
  | ro => exact .undef _
  | clo => exact .undef _
  | tup => exact .undef _
  | cmap => exact .undef _
  | ifc => exact .undef _
  | mapr id v hn hp hh =>
    simp only [conv0]
    cases hkp : kp id with
    | false => exact .undef _
    | true =>
      simp only [cond_true]
      split
      · rename_i kt vt l hm
        obtain ⟨h1, _⟩ := h.ob id _ hm
        exact .mapr id v (by simp only [Gh.turn]; exact Nat.lt_min.2 ⟨hk id hkp, (List.getElem?_eq_some_iff.1 hm).1⟩) hp fun _ => hh h1
      · exact .undef _
  | undef => exact .undef _

theorem convL_rep (h : RelM C K w B m) {objs : Nat} (hk : ∀ i, kp i = true → i < objs) {v : Value} {x : V S} (hv : RepV C.E K w v x) : RepV C.E (K.turn m objs kp) w v (convL m kp x) := by
  have many : ∀ (cs : Array Value) (vs : List (V S)), (∀ (j : Nat) (c : Value) (y : V S), cs[j]? = some c → vs[j]? = some y → RepV C.E K w c y) →
      ∀ (j : Nat) (c : Value) (y : V S), cs[j]? = some c → (vs.map (conv0 m kp))[j]? = some y → RepV C.E (K.turn m objs kp) w c y := by
    intro cs vs hj j c y p q
    rw [List.getElem?_map] at q
    cases hy : vs[j]? with
    | none => rw [hy] at q; cases q
    | some z =>
      rw [hy] at q
      simp only [Option.map_some, Option.some.injEq] at q
      subst q
      exact conv0_rep h hk (hj j c z p hy)
  cases hv with
  | agg cs vs hs hj => exact .agg cs _ (by simpa using hs) (many cs vs hj)
  | clo f a b a' b' h1 h2 hf hc => exact .clo f a b _ _ (by simpa using h1) (by simpa using h2) (many a a' hf) (many b b' hc)
  | own id g v hn hg hp hh => exact conv0_rep h hk (.own id g v hn hg hp hh)
  | ptr id off v hn hp hh => exact conv0_rep h hk (.ptr id off v hn hp hh)
  | cell h => exact .cell h
  | full h => exact .full h
  | nilS a => exact .nilS a
  | eptr => exact .undef _
  | ro => exact .undef _
  | tup => exact .undef _
  | cmap => exact .undef _
  | ifc => exact .undef _
  | mapr id v hn hp hh => exact conv0_rep h hk (.mapr id v hn hp hh)
  | undef => exact .undef _

theorem turn_rel (h : RelM C K w B m) {objs : Nat} (hk : ∀ i, kp i = true → i < objs) : RelM C (K.turn m objs kp) w B (convM m kp 0 (m.take objs)) := by
  have hlive : ∀ i, (K.turn m objs kp).live i = true → K.live i = true := by
    intro i hi
    simp only [Gh.turn] at hi
    cases hb : (kp i || boxAt m i) with
    | true => rw [hb] at hi; exact hi
    | false => rw [hb] at hi; cases hi
  refine ⟨?_, fun i o hi => ?_, fun i j hi hj li lj e => ?_, h.new, h.glob, h.base, h.old⟩
  · rw [convM_len, List.length_take]; rfl
  · rw [convM_get, Nat.zero_add] at hi
    cases ho : (m.take objs)[i]? with
    | none => rw [ho] at hi; cases hi
    | some o0 =>
      rw [ho] at hi
      simp only [Option.map_some, Option.some.injEq] at hi
      subst hi
      have hm : m[i]? = some o0 := by
        rw [List.getElem?_take] at ho
        split at ho
        · exact ho
        · cases ho
      have hob := h.ob i o0 hm
      cases o0 with
      | box cs fz =>
        obtain ⟨h0, hl, c, e, h1, h2, h3, h4, h5⟩ := hob
        have hbox : boxAt m i = true := by simp [boxAt, hm]
        refine ⟨rfl, by simp only [Gh.turn, hbox, Bool.or_true, cond_true]; exact hl, c, e, h1, ?_, fun j v x p q => ?_, h4, h5⟩
        · cases kp i <;> simpa using h2
        · cases hkp : kp i with
          | false =>
            rw [hkp] at q
            simp only [cond_false, List.getElem?_map] at q
            cases hcs : cs[j]? with
            | none => rw [hcs] at q; cases q
            | some z => rw [hcs] at q; simp only [Option.map_some, Option.some.injEq] at q; subst q; exact .undef _
          | true =>
            rw [hkp] at q
            simp only [cond_true, List.getElem?_map] at q
            cases hcs : cs[j]? with
            | none => rw [hcs] at q; cases q
            | some z => rw [hcs] at q; simp only [Option.map_some, Option.some.injEq] at q; subst q; exact convL_rep h hk (h3 j v z p hcs)
      | arr e t l g fz =>
        obtain ⟨h0, h1, h2⟩ := hob
        simp only [convOb]
        cases hkp : kp i with
        | true =>
          have hmap : mapObj m i = false := by simp [mapObj, hm]
          refine ⟨rfl, by simp only [Gh.turn, hmap, cond_false]; exact h1, ?_⟩
          simp only [Gh.turn, hkp, Bool.true_or, cond_true]
          exact h2
        | false =>
          have hbox : boxAt m i = false := by simp [boxAt, hm]
          have hmap : mapObj m i = false := by simp [mapObj, hm]
          refine ⟨rfl, by simp only [Gh.turn, hmap, cond_false]; exact h1, .inl ⟨by simp only [Gh.turn, hkp, hbox, Bool.or_false, cond_false], rfl, none, by simp only [Gh.turn, hkp, cond_false]⟩⟩
      | map kt vt l =>
        obtain ⟨h0, hl, es, clk, h1, h2, h3, h4⟩ := hob
        simp only [convOb]
        cases hkp : kp i with
        | true => exact ⟨rfl, by simp only [Gh.turn, hkp, Bool.true_or, cond_true]; exact hl, es, clk, h1, h2, h3, h4⟩
        | false =>
          have hbox : boxAt m i = false := by simp [boxAt, hm]
          have hmap : mapObj m i = true := by simp [mapObj, hm]
          exact ⟨rfl, by simp only [Gh.turn, hmap, cond_true]; rfl, .inl ⟨by simp only [Gh.turn, hkp, hbox, Bool.or_false, cond_false], rfl, none, by simp only [Gh.turn, hkp, cond_false]⟩⟩
  · have hn : (K.turn m objs kp).n ≤ K.n := by simp only [Gh.turn, h.n]; exact Nat.min_le_right _ _
    exact h.inj i j (Nat.lt_of_lt_of_le hi hn) (Nat.lt_of_lt_of_le hj hn) (hlive i li) (hlive j lj) e
end

/-- The steps of a turn. -/
inductive Hs where
  | canon (objs : Nat) (keep slots : List Nat)
  | plain (j : Nat) (t : Ty)
  | plainB (id off : Nat) (t : Ty)
  | mark (id : Nat)
  | promo (j : Nat) (e : TypeId) (T : Ty)
  | promoB (id off : Nat) (e : TypeId) (T : Ty)

def keepF (objs : Nat) (keep : List Nat) (i : Nat) : Bool := bif Nat.blt i objs then inL keep i else false
def hs1 (C : Ctx S) : Hs → St S → Option (St S)
  | .canon objs keep slots, s => some { tmps := convT s.mem (keepF objs keep) (inL slots) 0 s.tmps, mem := convM s.mem (keepF objs keep) 0 (s.mem.take objs) }
  | .plain j t, s => match s.tmps[j]? with
    | some v => (dec C.E (mark s.mem v.owns) t v).map fun x => { tmps := s.tmps.set j (encV C.E t x), mem := mark s.mem v.owns }
    | none => none
  | .plainB id off t, s => match s.mem[id]? with
    | some (.box cs fz) => match (bif isStT t then some (V.agg ((cs.drop off).take (tsize C.E t))) else cs[off]?) with
      | some v => bif decide (off + tsize C.E t ≤ cs.length) then (dec C.E (mark s.mem v.owns) t v).map fun x => { s with mem := (mark s.mem v.owns).set id (.box (setCells cs off (encV C.E t x).cells) fz) } else none
      | none => none
    | _ => none
  | .mark id, s => some { s with mem := mark s.mem [id] }
  | .promo j e T, s => match s.tmps[j]? with
    | some .nilS => some { tmps := s.tmps.set j (.own s.mem.length 0), mem := s.mem ++ [.arr e T [] 0 false] }
    | some (.own _ _) => some s
    | _ => none
  | .promoB id off e T, s => match s.mem[id]? with
    | some (.box cs fz) => match cs[off]? with
      | some .nilS => some { s with mem := s.mem.set id (.box (cs.set off (.own s.mem.length 0)) fz) ++ [.arr e T [] 0 false] }
      | some (.own _ _) => some s
      | _ => none
    | _ => none
def hsL (C : Ctx S) : List Hs → St S → Option (St S)
  | [], s => some s
  | h :: r, s => (hs1 C h s).bind (hsL C r)

/-- A loop's name: how deep it lies, and its first region. -/
def firstR : Code → Option Nat
  | .region id _ _ => some id
  | .seq a b => (firstR a).or (firstR b)
  | .cond _ a b => (firstR a).or (firstR b)
  | .block _ b => firstR b
  | .scope b => firstR b
  | .loop b => firstR b
  | _ => none
def loopKey : List Item → Nat × Nat
  | .inLoop c :: k => (k.length, (firstR c).getD 0)
  | k => (k.length, 0)
def keyL : List ((Nat × Nat) × List Hs) → Nat × Nat → Option (List Hs)
  | [], _ => none
  | p :: r, t => bif Nat.beq t.1 p.1.1 && Nat.beq t.2 p.1.2 then some p.2 else keyL r t
def hdOf (C : Ctx S) (tab : List ((Nat × Nat) × List Hs)) : List Item → St S → Option (St S) := fun todo s => (keyL tab (loopKey todo)).bind fun l => hsL C l s

section
variable {C : Ctx S} {B : Nat}

theorem RelS.setTmp {K : Gh} {w : World} {s : St S} {a : Act} (h : RelS C K w B s a) {j : Nat} {x y : V S} (hj : s.tmps[j]? = some x) (hxy : ∀ v, RepV C.E K w v x → RepV C.E K w v y) : RelS C K w B { s with tmps := s.tmps.set j y } a := by
  refine ⟨by simp [h.size], fun i c v p q => ?_, h.defers, h.mem⟩
  by_cases e : i = j
  · subst e
    have hlt := (List.getElem?_eq_some_iff.1 hj).1
    rw [List.getElem?_set_self hlt] at q
    cases q
    exact hxy c (h.tmps i c x p hj)
  · rw [List.getElem?_set_ne (fun r => e r.symm)] at q
    exact h.tmps i c v p q

theorem RelS.ext {K K' : Gh} {w w' : World} {s : St S} {a : Act} {m' : Mem S} (h : RelS C K w B s a) (hx : Ext K w K' w') (hm : RelM C K' w' B m') : RelS C K' w' B { s with mem := m' } a :=
  ⟨h.size, fun j c v p q => (h.tmps j c v p q).mono hx, h.defers, hm⟩

/-- A box's cell told otherwise. -/
theorem RelM.recell {K : Gh} {w : World} {m : Mem S} (h : RelM C K w B m) {id : Nat} {cs ds : List (V S)} {fz : Bool} (hm : m[id]? = some (.box cs fz)) (hl : ds.length = cs.length)
    (hd : ∀ (c : Array Value), c.size = cs.length → (∀ (j : Nat) (v : Value) (x : V S), c[j]? = some v → cs[j]? = some x → RepV C.E K w v x) → ∀ (j : Nat) (v : Value) (x : V S), c[j]? = some v → ds[j]? = some x → RepV C.E K w v x) :
    RelM C K w B (m.set id (.box ds fz)) := by
  have hlt : id < m.length := (List.getElem?_eq_some_iff.1 hm).1
  have hin : id < K.n := h.n ▸ hlt
  refine h.set hin (.refl K w) rfl (fun j _ _ => ⟨rfl, rfl, rfl, rfl, rfl⟩) (fun _ => .inl rfl) (fun k _ _ => rfl) (Nat.le_refl _) (fun q => .inl ⟨q, rfl⟩) h.new ?_
  obtain ⟨h0, hlv, c, e, h1, h2, h3, h4, h5⟩ := h.ob id _ hm
  exact ⟨h0, hlv, c, e, h1, h2.trans hl.symm, hd c h2 h3, h4, h5⟩

theorem keepF_lt {objs : Nat} {keep : List Nat} {i : Nat} (h : keepF objs keep i = true) : i < objs := by
  unfold keepF at h
  cases hb : Nat.blt i objs with
  | true => simpa [Nat.blt_eq] using hb
  | false => rw [hb] at h; cases h

theorem oneCells {u : Value} (h : u.oneCell' = true) : u.cells = #[u] := by
  cases u <;> first | rfl | (simp [Value.oneCell'] at h)

theorem mark1_box {m : Mem S} {i id : Nat} {cs : List (V S)} {fz : Bool} (h : m[id]? = some (.box cs fz)) : (mark1 m i)[id]? = some (.box cs fz) := by
  unfold mark1
  split
  · rename_i hm
    by_cases e : i = id
    · subst e; rw [hm] at h; cases h
    · rw [List.getElem?_set_ne e]; exact h
  · exact h
theorem mark_box {id : Nat} {cs : List (V S)} {fz : Bool} : ∀ {ids : List Nat} {m : Mem S}, m[id]? = some (.box cs fz) → (mark m ids)[id]? = some (.box cs fz)
  | [], _, h => h
  | _ :: ids, _, h => by
    unfold mark
    exact mark_box (ids := ids) (mark1_box h)
theorem hs1_ok (hE : EnvOK C.E) {K0 : Gh} {w0 : World} (h0 : K0.n = 0) (h : Hs) {s s' : St S} {a : Act} {w : World} (hA : At C B K0 w0 s a w) (hs : hs1 C h s = some s') : At C B K0 w0 s' a w := by
  obtain ⟨K, x1, x2, x3⟩ := hA
  cases h with
  | canon objs keep slots =>
    simp only [hs1, Option.some.injEq] at hs
    subst hs
    have hk : ∀ i, keepF objs keep i = true → i < objs := fun i => keepF_lt
    refine ⟨K.turn s.mem objs (keepF objs keep), ⟨by rw [h0]; exact Nat.zero_le _, fun i hi => by omega, x1.σ, x1.cell, x1.map, x1.σ0⟩, x2, ?_, fun j c v p q => ?_, x3.defers, turn_rel x3.mem hk⟩
    · rw [convT_len]; exact x3.size
    · rw [convT_get, Nat.zero_add] at q
      cases hv : s.tmps[j]? with
      | none => rw [hv] at q; cases q
      | some z =>
        rw [hv] at q
        simp only [Option.map_some, Option.some.injEq] at q
        subst q
        cases inL slots j with
        | true => exact convL_rep x3.mem hk (x3.tmps j c z p hv)
        | false => exact .undef _
  | plain j t =>
    simp only [hs1] at hs
    split at hs
    · rename_i v hv
      simp only [Option.map_eq_some_iff] at hs
      obtain ⟨x, hx, rfl⟩ := hs
      obtain ⟨K', y1, _, y2, y3⟩ := freeze x3.mem v.owns
      exact ⟨K', x1.trans y1, x2, (x3.ext y1 y2).setTmp hv fun u hu => dec_rep hE y2 hu hx y3⟩
    · cases hs
  | mark id =>
    simp only [hs1, Option.some.injEq] at hs
    subst hs
    obtain ⟨K', y1, _, y2, _⟩ := freeze x3.mem [id]
    exact ⟨K', x1.trans y1, x2, x3.ext y1 y2⟩
  | promo j e T =>
    simp only [hs1] at hs
    split at hs
    · rename_i hv
      simp only [Option.some.injEq] at hs
      subst hs
      have hlt := (List.getElem?_eq_some_iff.1 hv).1
      have hla : j < a.tmps.size := by rw [x3.size]; exact hlt
      have hrep := x3.tmps j a.tmps[j] .nilS (by simp [hla]) hv
      generalize hu : a.tmps[j] = u at hrep
      cases hrep with
      | nilS ad =>
        obtain ⟨K', y1, y2, y3⟩ := newNil x3.mem e T ad
        refine ⟨K', x1.trans y1, x2, ⟨by simp [x3.size], fun i c v p q => ?_, x3.defers, y2⟩⟩
        simp only at p q
        by_cases ei : i = j
        · subst ei
          rw [List.getElem?_set_self hlt] at q
          cases q
          rw [Array.getElem?_eq_getElem hla, hu, Option.some.injEq] at p
          subst p
          exact y3
        · rw [List.getElem?_set_ne (fun r => ei r.symm)] at q
          exact (x3.tmps i c v p q).mono y1
    · simp only [Option.some.injEq] at hs
      subst hs
      exact ⟨K, x1, x2, x3⟩
    · cases hs
  | plainB id off t =>
    simp only [hs1] at hs
    split at hs
    · rename_i cs fz hm
      split at hs
      · rename_i v hv
        cases ho : decide (off + tsize C.E t ≤ cs.length) with
        | false => rw [ho] at hs; cases hs
        | true =>
          rw [ho] at hs
          simp only [cond_true, Option.map_eq_some_iff] at hs
          obtain ⟨x, hx, rfl⟩ := hs
          have hle : off + tsize C.E t ≤ cs.length := by simpa using ho
          obtain ⟨K', y1, _, y2, y3⟩ := freeze x3.mem v.owns
          replace hm := mark_box (ids := v.owns) hm
          replace x1 := x1.trans y1
          replace x3 := x3.ext y1 y2
          have hcl : (encV C.E t x).cells.length = tsize C.E t := by
            rw [encV_cells, elemCells_eq, List.length_map, cellsOf_len hE]
          refine ⟨K', x1, x2, x3.ext (.refl K' w) (x3.mem.recell hm (setCells_len _ _ _) fun c hc hcr j u y p q => ?_)⟩
          rw [setCells_get cs _ off (by rw [hcl]; exact hle), hcl] at q
          split at q
          · rename_i hr
            -- of what is told anew
            have hone : ∀ (V0 : Value), RepV C.E K' w V0 v → V0.cells[j - off]? = some u → v.defd = true → RepV C.E K' w u y := by
              intro V0 hV0 hV1 hdf
              have hd := dec_rep hE x3.mem hV0 hx y3
              have hdd : (encV C.E t x).defd = true := by cases t <;> rfl
              exact (hd.cells hdd).2 _ u y hV1 q
            cases hst : isStT t with
            | true =>
              rw [hst] at hv
              simp only [cond_true, Option.some.injEq] at hv
              subst hv
              refine hone (.agg (c.extract off (off + tsize C.E t))) (.agg _ _ ?_ fun i z y' p' q' => ?_) ?_ rfl
              · simp; omega
              · rw [List.getElem?_take] at q'
                split at q'
                · rename_i hi
                  rw [List.getElem?_drop] at q'
                  have : c[off + i]? = some z := by
                    rw [Array.getElem?_extract] at p'
                    split at p'
                    · exact p'
                    · cases p'
                  exact hcr (off + i) z y' this q'
                · cases q'
              · simp only [Value.cells]
                rw [Array.getElem?_extract, if_pos (by omega)]
                rw [show off + (j - off) = j by omega]; exact p
            | false =>
              rw [hst] at hv
              simp only [cond_false] at hv
              have h1 : tsize C.E t = 1 := by cases t <;> first | rfl | exact absurd hst (by simp [isStT])
              have hj : j = off := by omega
              subst hj
              have hrv := hcr j u v p hv
              have hv1 : v.one = true := by
                have : ∀ t : Ty, (∃ y, decLeaf (mark s.mem v.owns) t v = some y) → v.one = true := by
                  rintro t ⟨y, hy⟩
                  cases v <;> first | rfl | (simp [decLeaf] at hy)
                refine this t ?_
                cases t <;> first | exact ⟨_, hx⟩ | exact absurd hst (by simp [isStT])
              refine hone u hrv ?_ (by cases v <;> first | rfl | (cases hv1))
              rw [oneCells (hrv.oneCell hv1)]; simp
          · exact hcr j u y p q
      · cases hs
    · cases hs
  | promoB id off e T =>
    simp only [hs1] at hs
    split at hs
    · rename_i cs fz hm
      split at hs
      · rename_i hv
        simp only [Option.some.injEq] at hs
        subst hs
        obtain ⟨g0, hlv, c, ce, h1, h2, h3, h4, h5⟩ := x3.mem.ob id _ hm
        have hlt := (List.getElem?_eq_some_iff.1 hv).1
        have hla : off < c.size := by omega
        have hrep := h3 off c[off] .nilS (by simp [hla]) hv
        generalize hu : c[off] = u at hrep
        cases hrep with
        | nilS ad =>
          obtain ⟨K', y1, y2, y3⟩ := newNil x3.mem e T ad
          have hidlt : id < s.mem.length := (List.getElem?_eq_some_iff.1 hm).1
          have hm' : (s.mem ++ [Ob.arr e T [] 0 false])[id]? = some (.box cs fz) := by rw [List.getElem?_append_left hidlt]; exact hm
          obtain ⟨k0, klv, c', ce', k1, k2, k3, k4, k5⟩ := y2.ob id _ hm'
          have hset : s.mem.set id (.box (cs.set off (.own s.mem.length 0)) fz) ++ [Ob.arr e T [] 0 false] = (s.mem ++ [Ob.arr e T [] 0 false]).set id (.box (cs.set off (.own s.mem.length 0)) fz) := by
            rw [List.set_append_left _ _ hidlt]
          rw [hset]
          have hin : id < K'.n := by rw [y2.n]; simp; omega
          have hin0 : id < K.n := by rw [x3.mem.n]; exact hidlt
          have hι : K'.ι id = K.ι id := by
            obtain ⟨q1, q2⟩ := y1.id id hin0
            exact (q2 (by rw [k0, g0])).1
          have hcc : c' = c := by
            rw [hι, h1] at k1
            cases k1; rfl
          subst hcc
          refine ⟨K', x1.trans y1, x2, x3.ext y1 (y2.set hin (.refl K' w) rfl (fun j _ _ => ⟨rfl, rfl, rfl, rfl, rfl⟩) (fun _ => .inl rfl) (fun k _ _ => rfl) (Nat.le_refl _) (fun q => .inl ⟨q, rfl⟩) y2.new ?_)⟩
          refine ⟨k0, klv, c', ce', k1, by simpa using k2, fun j v x p q => ?_, k4, k5⟩
          by_cases ej : j = off
          · subst ej
            rw [List.getElem?_set_self hlt] at q
            cases q
            rw [Array.getElem?_eq_getElem hla, hu, Option.some.injEq] at p
            subst p
            exact y3
          · rw [List.getElem?_set_ne (fun r => ej r.symm)] at q
            exact k3 j v x p q
      · simp only [Option.some.injEq] at hs
        subst hs
        exact ⟨K, x1, x2, x3⟩
      · cases hs
    · cases hs

theorem hsL_ok (hE : EnvOK C.E) {K0 : Gh} {w0 : World} (h0 : K0.n = 0) {a : Act} {w : World} : ∀ (l : List Hs) (s s' : St S), At C B K0 w0 s a w → hsL C l s = some s' → At C B K0 w0 s' a w
  | [], s, s', hA, hs => by cases hs; exact hA
  | h :: r, s, s', hA, hs => by
    obtain ⟨s1, h1, hs⟩ := bsome hs
    exact hsL_ok hE h0 r s1 s' (hs1_ok hE h0 h hA h1) hs

theorem hdOf_ok (hE : EnvOK C.E) (tab : List ((Nat × Nat) × List Hs)) : HdOK C (hdOf C tab) := by
  intro B K0 w0 todo s s' a w h0 hA hs
  unfold hdOf at hs
  obtain ⟨l, _, hs⟩ := bsome hs
  exact hsL_ok hE h0 l s s' hA hs
end
end Go.Lv
