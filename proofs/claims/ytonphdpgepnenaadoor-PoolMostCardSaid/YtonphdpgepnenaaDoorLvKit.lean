import Derived.Test.YtonphdpgepnenaaDoorLvLd
import Derived.KernelRfl
namespace Go.Lv
set_option linter.all false
open Go
variable {S : Nat → Type}

/-! Results and arguments, typed. -/
def res0 (cs : List (Cell S)) : Option Unit := match cs with | [] => some () | _ => none
def res1 (t : Ty) (cs : List (Cell S)) : Option (den S t) := match cs with | [c] => c.as t | _ => none
def res2 (t u : Ty) (cs : List (Cell S)) : Option (den S t × den S u) := match cs with | [c, d] => (c.as t).bind fun x => (d.as u).bind fun y => some (x, y) | _ => none
def res3 (t u v : Ty) (cs : List (Cell S)) : Option (den S t × den S u × den S v) := match cs with
  | [c, d, e] => (c.as t).bind fun x => (d.as u).bind fun y => (e.as v).bind fun z => some (x, y, z) | _ => none
def res4 (t u v s : Ty) (cs : List (Cell S)) : Option (den S t × den S u × den S v × den S s) := match cs with
  | [c, d, e, f] => (c.as t).bind fun x => (d.as u).bind fun y => (e.as v).bind fun z => (f.as s).bind fun q => some (x, y, z, q) | _ => none
def enc0 : Unit → List (Cell S) := fun _ => []
def enc1 (t : Ty) : den S t → List (Cell S) := fun x => [⟨t, x⟩]
def enc2 (t u : Ty) : den S t × den S u → List (Cell S) := fun p => [⟨t, p.1⟩, ⟨u, p.2⟩]
def enc3 (t u v : Ty) : den S t × den S u × den S v → List (Cell S) := fun p => [⟨t, p.1⟩, ⟨u, p.2.1⟩, ⟨v, p.2.2⟩]
def enc4 (t u v s : Ty) : den S t × den S u × den S v × den S s → List (Cell S) := fun p => [⟨t, p.1⟩, ⟨u, p.2.1⟩, ⟨v, p.2.2.1⟩, ⟨s, p.2.2.2⟩]

theorem as_inv {c : Cell S} {t : Ty} {x : den S t} (h : c.as t = some x) : c = ⟨t, x⟩ := by
  obtain ⟨u, y⟩ := c
  unfold Cell.as at h
  split at h
  · rename_i e
    simp only at e
    subst e
    simp only [Option.some.injEq] at h
    rw [h]
  · cases h
theorem bsome {α β : Type} {o : Option α} {f : α → Option β} {b : β} (h : o.bind f = some b) : ∃ a, o = some a ∧ f a = some b := by
  cases o with
  | none => cases h
  | some a => exact ⟨a, rfl, h⟩
theorem de0 (cs : List (Cell S)) (r : Unit) (h : res0 cs = some r) : cs = enc0 r := by
  unfold res0 at h; split at h
  · rfl
  · cases h
theorem de1 (t : Ty) (cs : List (Cell S)) (r : den S t) (h : res1 t cs = some r) : cs = enc1 t r := by
  unfold res1 at h; split at h
  · rw [as_inv h]; rfl
  · cases h
theorem de2 (t u : Ty) (cs : List (Cell S)) (r : den S t × den S u) (h : res2 t u cs = some r) : cs = enc2 t u r := by
  unfold res2 at h; split at h
  · obtain ⟨x, h1, h⟩ := bsome h
    obtain ⟨y, h2, h⟩ := bsome h
    cases h
    rw [as_inv h1, as_inv h2]; rfl
  · cases h
theorem de3 (t u v : Ty) (cs : List (Cell S)) (r : den S t × den S u × den S v) (h : res3 t u v cs = some r) : cs = enc3 t u v r := by
  unfold res3 at h; split at h
  · obtain ⟨x, h1, h⟩ := bsome h
    obtain ⟨y, h2, h⟩ := bsome h
    obtain ⟨z, h3, h⟩ := bsome h
    cases h
    rw [as_inv h1, as_inv h2, as_inv h3]; rfl
  · cases h
theorem de4 (t u v s : Ty) (cs : List (Cell S)) (r : den S t × den S u × den S v × den S s) (h : res4 t u v s cs = some r) : cs = enc4 t u v s r := by
  unfold res4 at h; split at h
  · obtain ⟨x, h1, h⟩ := bsome h
    obtain ⟨y, h2, h⟩ := bsome h
    obtain ⟨z, h3, h⟩ := bsome h
    obtain ⟨q, h4, h⟩ := bsome h
    cases h
    rw [as_inv h1, as_inv h2, as_inv h3, as_inv h4]; rfl
  · cases h

section
variable {R : Type}
def run0 (F : Option R) : List (Cell S) → Option R
  | [] => F
  | _ => none
def run1 (a : Ty) (F : den S a → Option R) : List (Cell S) → Option R
  | [x] => (x.as a).bind F
  | _ => none
def run2 (a b : Ty) (F : den S a → den S b → Option R) : List (Cell S) → Option R
  | [x, y] => (x.as a).bind fun p => (y.as b).bind fun q => F p q
  | _ => none
def run3 (a b c : Ty) (F : den S a → den S b → den S c → Option R) : List (Cell S) → Option R
  | [x, y, z] => (x.as a).bind fun p => (y.as b).bind fun q => (z.as c).bind fun r => F p q r
  | _ => none
def run4 (a b c d : Ty) (F : den S a → den S b → den S c → den S d → Option R) : List (Cell S) → Option R
  | [x, y, z, u] => (x.as a).bind fun p => (y.as b).bind fun q => (z.as c).bind fun r => (u.as d).bind fun s => F p q r s
  | _ => none
def run5 (a b c d e : Ty) (F : den S a → den S b → den S c → den S d → den S e → Option R) : List (Cell S) → Option R
  | [x, y, z, u, v] => (x.as a).bind fun p => (y.as b).bind fun q => (z.as c).bind fun r => (u.as d).bind fun s => (v.as e).bind fun t => F p q r s t
  | _ => none
def run6 (a b c d e f : Ty) (F : den S a → den S b → den S c → den S d → den S e → den S f → Option R) : List (Cell S) → Option R
  | [x, y, z, u, v, w] => (x.as a).bind fun p => (y.as b).bind fun q => (z.as c).bind fun r => (u.as d).bind fun s => (v.as e).bind fun t => (w.as f).bind fun o => F p q r s t o
  | _ => none
theorem inv0 {F : Option R} {cs : List (Cell S)} {r : R} (h : run0 F cs = some r) : cs = [] ∧ F = some r := by
  unfold run0 at h; split at h
  · exact ⟨rfl, h⟩
  · cases h
theorem inv1 {a : Ty} {F : den S a → Option R} {cs : List (Cell S)} {r : R} (h : run1 a F cs = some r) : ∃ p, cs = [⟨a, p⟩] ∧ F p = some r := by
  unfold run1 at h; split at h
  · obtain ⟨p, h1, h⟩ := bsome h
    exact ⟨p, by rw [as_inv h1], h⟩
  · cases h
theorem inv2 {a b : Ty} {F : den S a → den S b → Option R} {cs : List (Cell S)} {r : R} (h : run2 a b F cs = some r) : ∃ p q, cs = [⟨a, p⟩, ⟨b, q⟩] ∧ F p q = some r := by
  unfold run2 at h; split at h
  · obtain ⟨p, h1, h⟩ := bsome h
    obtain ⟨q, h2, h⟩ := bsome h
    exact ⟨p, q, by rw [as_inv h1, as_inv h2], h⟩
  · cases h
theorem inv3 {a b c : Ty} {F : den S a → den S b → den S c → Option R} {cs : List (Cell S)} {r : R} (h : run3 a b c F cs = some r) : ∃ p q s, cs = [⟨a, p⟩, ⟨b, q⟩, ⟨c, s⟩] ∧ F p q s = some r := by
  unfold run3 at h; split at h
  · obtain ⟨p, h1, h⟩ := bsome h
    obtain ⟨q, h2, h⟩ := bsome h
    obtain ⟨s, h3, h⟩ := bsome h
    exact ⟨p, q, s, by rw [as_inv h1, as_inv h2, as_inv h3], h⟩
  · cases h
theorem inv4 {a b c d : Ty} {F : den S a → den S b → den S c → den S d → Option R} {cs : List (Cell S)} {r : R} (h : run4 a b c d F cs = some r) : ∃ p q s t, cs = [⟨a, p⟩, ⟨b, q⟩, ⟨c, s⟩, ⟨d, t⟩] ∧ F p q s t = some r := by
  unfold run4 at h; split at h
  · obtain ⟨p, h1, h⟩ := bsome h
    obtain ⟨q, h2, h⟩ := bsome h
    obtain ⟨s, h3, h⟩ := bsome h
    obtain ⟨t, h4, h⟩ := bsome h
    exact ⟨p, q, s, t, by rw [as_inv h1, as_inv h2, as_inv h3, as_inv h4], h⟩
  · cases h
theorem inv5 {a b c d e : Ty} {F : den S a → den S b → den S c → den S d → den S e → Option R} {cs : List (Cell S)} {r : R} (h : run5 a b c d e F cs = some r) : ∃ p q s t u, cs = [⟨a, p⟩, ⟨b, q⟩, ⟨c, s⟩, ⟨d, t⟩, ⟨e, u⟩] ∧ F p q s t u = some r := by
  unfold run5 at h; split at h
  · obtain ⟨p, h1, h⟩ := bsome h
    obtain ⟨q, h2, h⟩ := bsome h
    obtain ⟨s, h3, h⟩ := bsome h
    obtain ⟨t, h4, h⟩ := bsome h
    obtain ⟨u, h5, h⟩ := bsome h
    exact ⟨p, q, s, t, u, by rw [as_inv h1, as_inv h2, as_inv h3, as_inv h4, as_inv h5], h⟩
  · cases h
theorem inv6 {a b c d e f : Ty} {F : den S a → den S b → den S c → den S d → den S e → den S f → Option R} {cs : List (Cell S)} {r : R} (h : run6 a b c d e f F cs = some r) : ∃ p q s t u v, cs = [⟨a, p⟩, ⟨b, q⟩, ⟨c, s⟩, ⟨d, t⟩, ⟨e, u⟩, ⟨f, v⟩] ∧ F p q s t u v = some r := by
  unfold run6 at h; split at h
  · obtain ⟨p, h1, h⟩ := bsome h
    obtain ⟨q, h2, h⟩ := bsome h
    obtain ⟨s, h3, h⟩ := bsome h
    obtain ⟨t, h4, h⟩ := bsome h
    obtain ⟨u, h5, h⟩ := bsome h
    obtain ⟨v, h6, h⟩ := bsome h
    exact ⟨p, q, s, t, u, v, by rw [as_inv h1, as_inv h2, as_inv h3, as_inv h4, as_inv h5, as_inv h6], h⟩
  · cases h
end

/-! The tables of a program. -/
def tyL : List (Nat × Ty) → Nat → Option Ty
  | [], _ => none
  | p :: r, t => bif Nat.beq t p.1 then some p.2 else tyL r t
theorem tyL_mem : ∀ {l : List (Nat × Ty)} {t : Nat} {T : Ty}, tyL l t = some T → (t, T) ∈ l
  | [], _, _, h => by cases h
  | p :: r, t, T, h => by
    unfold tyL at h
    cases hb : Nat.beq t p.1 with
    | true => rw [hb] at h; simp only [cond_true, Option.some.injEq] at h; have := Nat.eq_of_beq_eq_true hb; subst this; subst h; exact List.mem_cons_self
    | false => rw [hb] at h; exact List.mem_cons_of_mem _ (tyL_mem h)
def spL : List (Nat × Spec S) → Nat → Option (Spec S)
  | [], _ => none
  | p :: r, t => bif Nat.beq t p.1 then some p.2 else spL r t
theorem spL_mem : ∀ {l : List (Nat × Spec S)} {t : Nat} {T : Spec S}, spL l t = some T → (t, T) ∈ l
  | [], _, _, h => by cases h
  | p :: r, t, T, h => by
    unfold spL at h
    cases hb : Nat.beq t p.1 with
    | true => rw [hb] at h; simp only [cond_true, Option.some.injEq] at h; have := Nat.eq_of_beq_eq_true hb; subst this; subst h; exact List.mem_cons_self
    | false => rw [hb] at h; exact List.mem_cons_of_mem _ (spL_mem h)
def inL : List Nat → Nat → Bool
  | [], _ => false
  | p :: r, t => bif Nat.beq t p then true else inL r t
theorem inL_mem : ∀ {l : List Nat} {t : Nat}, inL l t = true → t ∈ l
  | [], _, h => by cases h
  | p :: r, t, h => by
    unfold inL at h
    cases hb : Nat.beq t p with
    | true => have := Nat.eq_of_beq_eq_true hb; subst this; exact List.mem_cons_self
    | false => rw [hb] at h; exact List.mem_cons_of_mem _ (inL_mem h)

def tyB (P : Program) (E : Env S) (p : Nat × Ty) : Bool := match P.info? p.1 with
  | some i => (match i.zero with
    | some z => z.cells.size == i.size
    | none => false) && i.size == tsize E p.2 && decide (0 < i.size) && decide (i.bytes ≤ 1024)
  | none => false
def tabB (P : Program) (E : Env S) (ty : TypeId → Option Ty) (p : Nat × Ty) : Bool :=
  decide (flat P ty 12 p.1 = some (cellTys E p.2)) && decide (0 < tsize E p.2) && (isStr P p.1 == isStT p.2)

theorem tyOK_of {C : Ctx S} {l : List (Nat × Ty)} (hl : C.ty = tyL l) (h : l.all (tyB C.P C.E) = true) : TyOK C := by
  intro e T ht
  rw [hl] at ht
  have := (List.all_eq_true.1 h) _ (tyL_mem ht)
  unfold tyB at this
  simp only at this
  cases hi : C.P.info? e with
  | none => rw [hi] at this; cases this
  | some i =>
    rw [hi] at this
    simp only [Bool.and_eq_true] at this
    obtain ⟨⟨⟨h1, h2⟩, h3⟩, h4⟩ := this
    cases hz : i.zero with
    | none => rw [hz] at h1; cases h1
    | some z =>
      rw [hz] at h1
      exact ⟨i, z, rfl, by simpa using h2, hz, by simpa using h1, by simpa using h3, by simpa using h4⟩
theorem tabOK_of {C : Ctx S} {l : List (Nat × Ty)} (hl : C.ty = tyL l) (h : l.all (tabB C.P C.E C.ty) = true) : TabOK C := by
  intro t T ht
  rw [hl] at ht
  have := (List.all_eq_true.1 h) _ (tyL_mem ht)
  unfold tabB at this
  simp only [Bool.and_eq_true] at this
  obtain ⟨⟨h1, h2⟩, h3⟩ := this
  exact ⟨⟨12, by simpa using h1⟩, by simpa using h2, by simpa using h3⟩

theorem SpecOK.re {C C' : Ctx S} (hP : C'.P = C.P) (hE : C'.E = C.E) (hG : C'.G = C.G) {f : FuncId} {sp : Spec S} (h : SpecOK C f sp) : SpecOK C' f sp := by
  unfold SpecOK GlobOK at h ⊢
  rw [hP, hE, hG]; exact h
end Go.Lv
