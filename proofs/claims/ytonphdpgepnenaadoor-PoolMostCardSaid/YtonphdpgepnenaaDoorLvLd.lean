import Derived.Test.YtonphdpgepnenaaDoorLvLaid
import Derived.Test.YtonphdpgepnenaaDoorLvTypes
namespace Go.Lv.Ld
set_option linter.all false
open Go Go.Lv

/-- Each cell is told by its value. -/
inductive Bk {α : Type} (d : (t : Ty) → α → Option (den S t)) : List α → List (Cell S) → Prop where
  | nil : Bk d [] []
  | cons {t : Ty} {x : den S t} {v : α} {vs : List α} {cs : List (Cell S)} (h : d t v = some x) (hs : Bk d vs cs) : Bk d (v :: vs) (⟨t, x⟩ :: cs)

theorem Bk.len {α : Type} {d : (t : Ty) → α → Option (den S t)} {vs : List α} {cs : List (Cell S)} (h : Bk d vs cs) : vs.length = cs.length := by
  induction h with
  | nil => rfl
  | cons h hs ih => simp [ih]
theorem Bk.get {α : Type} {d : (t : Ty) → α → Option (den S t)} {vs : List α} {cs : List (Cell S)} (h : Bk d vs cs) : ∀ (j : Nat) (v : α) (c : Cell S), vs[j]? = some v → cs[j]? = some c → d c.t v = some c.x := by
  induction h with
  | nil => intro j v c h; simp at h
  | cons h hs ih =>
    intro j v c p q
    cases j with
    | zero => simp only [List.getElem?_cons_zero, Option.some.injEq] at p q; subst p q; exact h
    | succ j => exact ih j v c p q
theorem Bk.app {α : Type} {d : (t : Ty) → α → Option (den S t)} {vs : List α} {cs : List (Cell S)} (h : Bk d vs cs) {vs' : List α} {cs' : List (Cell S)} (h' : Bk d vs' cs') : Bk d (vs ++ vs') (cs ++ cs') := by
  induction h with
  | nil => exact h'
  | cons h hs ih => exact .cons h ih

theorem bs {α β : Type} {o : Option α} {f : α → Option β} {b : β} (h : o.bind f = some b) : ∃ a, o = some a ∧ f a = some b := by
  cases o with
  | none => cases h
  | some a => exact ⟨a, rfl, h⟩

section
variable {α : Type} {d : (t : Ty) → α → Option (den S t)}
theorem blockB {vs : List α} {x : Block} (h : blockO d vs = some x) : Bk d vs [⟨u32, x.base⟩, ⟨i64, x.pre⟩] := by
  unfold blockO at h
  split at h
  · obtain ⟨a, h1, h⟩ := bs h
    obtain ⟨b, h2, h⟩ := bs h
    cases h
    exact .cons h1 (.cons h2 .nil)
  · cases h
theorem askB {vs : List α} {x : Ask} (h : askO d vs = some x) : Bk d vs (askC x) := by
  unfold askO at h
  split at h
  · obtain ⟨a, h1, h⟩ := bs h
    obtain ⟨b, h2, h⟩ := bs h
    obtain ⟨c, h3, h⟩ := bs h
    cases h
    exact .cons h1 (.cons h2 (.cons h3 .nil))
  · cases h
theorem answerB {vs : List α} {x : Answer} (h : answerO d vs = some x) : Bk d vs (answerC x) := by
  unfold answerO at h
  split at h
  · obtain ⟨a, h1, h⟩ := bs h
    obtain ⟨b, h2, h⟩ := bs h
    obtain ⟨c, h3, h⟩ := bs h
    obtain ⟨e, h4, h⟩ := bs h
    obtain ⟨f, h5, h⟩ := bs h
    cases h
    exact .cons h1 (.cons h2 (.cons h3 (.cons h4 (.cons h5 .nil))))
  · cases h
theorem confB {vs : List α} {x : Conf} (h : confO d vs = some x) : Bk d vs (toC 1 x) := by
  unfold confO at h
  split at h
  · obtain ⟨a, h1, h⟩ := bs h
    obtain ⟨x3, h3, h⟩ := bs h
    obtain ⟨x4, h4, h⟩ := bs h
    obtain ⟨x5, h5, h⟩ := bs h
    obtain ⟨x6, h6, h⟩ := bs h
    obtain ⟨x7, h7, h⟩ := bs h
    cases h
    have := blockB h1
    exact this.app (vs' := [_, _, _, _, _]) (.cons h3 (.cons h4 (.cons h5 (.cons h6 (.cons h7 .nil)))))
  · cases h
theorem opB {vs : List α} {x : Oq} (h : opO d vs = some x) : Bk d vs (toC 4 x) := by
  unfold opO at h
  split at h
  · obtain ⟨a, ha, h⟩ := bs h
    obtain ⟨b, hb, h⟩ := bs h
    obtain ⟨x1, h1, h⟩ := bs h
    obtain ⟨x2, h2, h⟩ := bs h
    obtain ⟨x3, h3, h⟩ := bs h
    obtain ⟨x4, h4, h⟩ := bs h
    obtain ⟨x5, h5, h⟩ := bs h
    obtain ⟨x6, h6, h⟩ := bs h
    obtain ⟨x7, h7, h⟩ := bs h
    obtain ⟨x8, h8, h⟩ := bs h
    obtain ⟨x9, h9, h⟩ := bs h
    obtain ⟨x10, h10, h⟩ := bs h
    obtain ⟨x11, h11, h⟩ := bs h
    obtain ⟨x12, h12, h⟩ := bs h
    cases h
    exact ((askB ha).app (answerB hb)).app (.cons h1 (.cons h2 (.cons h3 (.cons h4 (.cons h5 (.cons h6 (.cons h7 (.cons h8 (.cons h9 (.cons h10 (.cons h11 (.cons h12 .nil))))))))))))
  · cases h
theorem callB {vs : List α} {x : Call} (h : callO d vs = some x) : Bk d vs (toC 5 x) := by
  unfold callO at h
  split at h
  · obtain ⟨x1, h1, h⟩ := bs h
    obtain ⟨a, ha, h⟩ := bs h
    obtain ⟨y, h2, h⟩ := bs h
    obtain ⟨z, h3, h⟩ := bs h
    obtain ⟨b, hb, h⟩ := bs h
    cases h
    exact .cons h1 ((askB ha).app (.cons h2 (.cons h3 (answerB hb))))
  · cases h
theorem eventB {vs : List α} {x : Event} (h : eventO d vs = some x) : Bk d vs (toC 6 x) := by
  unfold eventO at h
  split at h
  · obtain ⟨x1, h1, h⟩ := bs h
    obtain ⟨x2, h2, h⟩ := bs h
    obtain ⟨x3, h3, h⟩ := bs h
    obtain ⟨x4, h4, h⟩ := bs h
    obtain ⟨x5, h5, h⟩ := bs h
    obtain ⟨b, hb, h⟩ := bs h
    cases h
    exact .cons h1 (.cons h2 (.cons h3 (.cons h4 (.cons h5 (answerB hb)))))
  · cases h
end

theorem typed (i : Nat) (x : S i) : (toC i x).map (·.t) = tys i := by
  match i, x with
  | 0, x => rfl
  | 1, x => rfl
  | 2, x => rfl
  | 3, x => rfl
  | 4, x => rfl
  | 5, x => rfl
  | 6, x => rfl
  | _ + 7, x => rfl

def isSt : Ty → Bool
  | .st _ => true
  | _ => false
theorem noSt (i : Nat) : (tys i).all (fun t => !isSt t) = true := by
  match i with
  | 0 => rfl
  | 1 => rfl
  | 2 => rfl
  | 3 => rfl
  | 4 => rfl
  | 5 => rfl
  | 6 => rfl
  | _ + 7 => rfl

theorem backB {α : Type} {d : (t : Ty) → α → Option (den S t)} (i : Nat) (vs : List α) (x : S i) (h : ofC d i vs = some x) : Bk d vs (toC i x) := by
  match i, x, h with
  | 0, x, h => exact blockB h
  | 1, x, h => exact confB h
  | 2, x, h => exact askB h
  | 3, x, h => exact answerB h
  | 4, x, h => exact opB h
  | 5, x, h => exact callB h
  | 6, x, h => exact eventB h
  | n + 7, x, h => exact absurd ((show (none : Option (S (n + 7))) = some x from h)) (by intro q; cases q)

theorem backOK (i : Nat) {α : Type} (d : (t : Ty) → α → Option (den S t)) (vs : List α) (x : S i) (h : ofC d i vs = some x) :
    vs.length = (tys i).length ∧ ∀ (j : Nat) (v : α) (c : Cell S), vs[j]? = some v → (toC i x)[j]? = some c → d c.t v = some c.x := by
  have hb : Bk d vs (toC i x) := backB i vs x h
  have h1 : (toC i x).length = ((toC i x).map (·.t)).length := by rw [List.length_map]
  rw [typed] at h1
  exact ⟨hb.len.trans h1, hb.get⟩

theorem bind_mono {α β : Type} {o o' : Option α} {f f' : α → Option β} {b : β} (h : ∀ a, o = some a → o' = some a) (hf : ∀ a, f a = some b → f' a = some b) (hb : o.bind f = some b) : o'.bind f' = some b := by
  obtain ⟨a, h1, h2⟩ := bs hb
  rw [h a h1]; exact hf a h2
set_option maxHeartbeats 4000000 in
theorem monoOK (i : Nat) {α : Type} (d d' : (t : Ty) → α → Option (den S t)) (vs : List α) (x : S i) (hd : ∀ t v y, d t v = some y → d' t v = some y) (h : ofC d i vs = some x) : ofC d' i vs = some x := by
  have hB : ∀ (l : List α) (x : Block), blockO d l = some x → blockO d' l = some x := by
    intro l x h; unfold blockO at h ⊢
    split at h
    · exact bind_mono (hd _ _) (fun _ => bind_mono (hd _ _) (fun _ => id)) h
    · cases h
  have hA : ∀ (l : List α) (x : Ask), askO d l = some x → askO d' l = some x := by
    intro l x h; unfold askO at h ⊢
    split at h
    · exact bind_mono (hd _ _) (fun _ => bind_mono (hd _ _) (fun _ => bind_mono (hd _ _) (fun _ => id))) h
    · cases h
  have hN : ∀ (l : List α) (x : Answer), answerO d l = some x → answerO d' l = some x := by
    intro l x h; unfold answerO at h ⊢
    split at h
    · exact bind_mono (hd _ _) (fun _ => bind_mono (hd _ _) (fun _ => bind_mono (hd _ _) (fun _ => bind_mono (hd _ _) (fun _ => bind_mono (hd _ _) (fun _ => id))))) h
    · cases h
  match i, x, h with
  | 0, x, h => exact hB vs x h
  | 1, x, h =>
    show confO d' vs = some x
    have h : confO d vs = some x := h
    unfold confO at h ⊢
    split at h
    · exact bind_mono (fun _ => hB _ _) (fun _ => bind_mono (hd _ _) (fun _ => bind_mono (hd _ _) (fun _ => bind_mono (hd _ _) (fun _ => bind_mono (hd _ _) (fun _ => bind_mono (hd _ _) (fun _ => id)))))) h
    · cases h
  | 2, x, h => exact hA vs x h
  | 3, x, h => exact hN vs x h
  | 4, x, h =>
    show opO d' vs = some x
    have h : opO d vs = some x := h
    unfold opO at h ⊢
    split at h
    · exact bind_mono (fun _ => hA _ _) (fun _ => bind_mono (fun _ => hN _ _) (fun _ => bind_mono (hd _ _) (fun _ => bind_mono (hd _ _) (fun _ => bind_mono (hd _ _) (fun _ => bind_mono (hd _ _) (fun _ => bind_mono (hd _ _) (fun _ => bind_mono (hd _ _) (fun _ => bind_mono (hd _ _) (fun _ => bind_mono (hd _ _) (fun _ => bind_mono (hd _ _) (fun _ => bind_mono (hd _ _) (fun _ => bind_mono (hd _ _) (fun _ => bind_mono (hd _ _) (fun _ => id)))))))))))))) h
    · cases h
  | 5, x, h =>
    show callO d' vs = some x
    have h : callO d vs = some x := h
    unfold callO at h ⊢
    split at h
    · exact bind_mono (hd _ _) (fun _ => bind_mono (fun _ => hA _ _) (fun _ => bind_mono (hd _ _) (fun _ => bind_mono (hd _ _) (fun _ => bind_mono (fun _ => hN _ _) (fun _ => id))))) h
    · cases h
  | 6, x, h =>
    show eventO d' vs = some x
    have h : eventO d vs = some x := h
    unfold eventO at h ⊢
    split at h
    · exact bind_mono (hd _ _) (fun _ => bind_mono (hd _ _) (fun _ => bind_mono (hd _ _) (fun _ => bind_mono (hd _ _) (fun _ => bind_mono (hd _ _) (fun _ => bind_mono (fun _ => hN _ _) (fun _ => id)))))) h
    · cases h
  | (n + 7), x, h => exact nomatch (show (none : Option (S (n + 7))) = some x from h)

theorem envOK : EnvOK E where
  mono i α d d' vs x hd h := monoOK i d d' vs x hd h
  typed := typed
  leaf i t h n := by
    have := (List.all_eq_true.1 (noSt i)) t h
    intro e
    rw [e] at this
    cases this
  back i {α} d vs x h := backOK i d vs x h

theorem cut {t : Ty} {ts : List Ty} {cells : List (Cell S)} (h : cells.map (·.t) = t :: ts) : ∃ (x : den S t) (r : List (Cell S)), cells = ⟨t, x⟩ :: r ∧ r.map (·.t) = ts := by
  cases cells with
  | nil => cases h
  | cons c r =>
    simp only [List.map_cons, List.cons.injEq] at h
    obtain ⟨rfl, h⟩ := h
    exact ⟨c.x, r, rfl, h⟩
theorem cutN {cells : List (Cell S)} (h : cells.map (·.t) = []) : cells = [] := by simpa using h

theorem envFill : EnvFill E := by
  intro i cells h
  match i, h with
  | 0, h =>
    obtain ⟨a, r1, e1, h1⟩ := cut h
    obtain ⟨b, r2, e2, h2⟩ := cut h1
    have e0 := cutN h2
    subst e0
    subst e2
    subst e1
    exact ⟨(⟨a, b⟩ : Block), rfl⟩
  | 1, h =>
    obtain ⟨a, r1, e1, h1⟩ := cut h
    obtain ⟨b, r2, e2, h2⟩ := cut h1
    obtain ⟨c, r3, e3, h3⟩ := cut h2
    obtain ⟨d, r4, e4, h4⟩ := cut h3
    obtain ⟨e, r5, e5, h5⟩ := cut h4
    obtain ⟨f, r6, e6, h6⟩ := cut h5
    obtain ⟨g, r7, e7, h7⟩ := cut h6
    have e0 := cutN h7
    subst e0
    subst e7
    subst e6
    subst e5
    subst e4
    subst e3
    subst e2
    subst e1
    exact ⟨(⟨⟨a, b⟩, c, d, e, f, g⟩ : Conf), rfl⟩
  | 2, h =>
    obtain ⟨a, r1, e1, h1⟩ := cut h
    obtain ⟨b, r2, e2, h2⟩ := cut h1
    obtain ⟨c, r3, e3, h3⟩ := cut h2
    have e0 := cutN h3
    subst e0
    subst e3
    subst e2
    subst e1
    exact ⟨(⟨a, b, c⟩ : Ask), rfl⟩
  | 3, h =>
    obtain ⟨a, r1, e1, h1⟩ := cut h
    obtain ⟨b, r2, e2, h2⟩ := cut h1
    obtain ⟨c, r3, e3, h3⟩ := cut h2
    obtain ⟨d, r4, e4, h4⟩ := cut h3
    obtain ⟨e, r5, e5, h5⟩ := cut h4
    have e0 := cutN h5
    subst e0
    subst e5
    subst e4
    subst e3
    subst e2
    subst e1
    exact ⟨(⟨a, b, c, d, e⟩ : Answer), rfl⟩
  | 4, h =>
    obtain ⟨a1, r1, e1, h1⟩ := cut h
    obtain ⟨a2, r2, e2, h2⟩ := cut h1
    obtain ⟨a3, r3, e3, h3⟩ := cut h2
    obtain ⟨b1, r4, e4, h4⟩ := cut h3
    obtain ⟨b2, r5, e5, h5⟩ := cut h4
    obtain ⟨b3, r6, e6, h6⟩ := cut h5
    obtain ⟨b4, r7, e7, h7⟩ := cut h6
    obtain ⟨b5, r8, e8, h8⟩ := cut h7
    obtain ⟨c1, r9, e9, h9⟩ := cut h8
    obtain ⟨c2, r10, e10, h10⟩ := cut h9
    obtain ⟨c3, r11, e11, h11⟩ := cut h10
    obtain ⟨c4, r12, e12, h12⟩ := cut h11
    obtain ⟨c5, r13, e13, h13⟩ := cut h12
    obtain ⟨c6, r14, e14, h14⟩ := cut h13
    obtain ⟨c7, r15, e15, h15⟩ := cut h14
    obtain ⟨c8, r16, e16, h16⟩ := cut h15
    obtain ⟨c9, r17, e17, h17⟩ := cut h16
    obtain ⟨c10, r18, e18, h18⟩ := cut h17
    obtain ⟨c11, r19, e19, h19⟩ := cut h18
    obtain ⟨c12, r20, e20, h20⟩ := cut h19
    have e0 := cutN h20
    subst e0
    subst e20
    subst e19
    subst e18
    subst e17
    subst e16
    subst e15
    subst e14
    subst e13
    subst e12
    subst e11
    subst e10
    subst e9
    subst e8
    subst e7
    subst e6
    subst e5
    subst e4
    subst e3
    subst e2
    subst e1
    exact ⟨(⟨⟨a1, a2, a3⟩, ⟨b1, b2, b3, b4, b5⟩, c1, c2, c3, c4, c5, c6, c7, c8, c9, c10, c11, c12⟩ : Oq), rfl⟩
  | 5, h =>
    obtain ⟨a, r1, e1, h1⟩ := cut h
    obtain ⟨a1, r2, e2, h2⟩ := cut h1
    obtain ⟨a2, r3, e3, h3⟩ := cut h2
    obtain ⟨a3, r4, e4, h4⟩ := cut h3
    obtain ⟨f, r5, e5, h5⟩ := cut h4
    obtain ⟨t, r6, e6, h6⟩ := cut h5
    obtain ⟨b1, r7, e7, h7⟩ := cut h6
    obtain ⟨b2, r8, e8, h8⟩ := cut h7
    obtain ⟨b3, r9, e9, h9⟩ := cut h8
    obtain ⟨b4, r10, e10, h10⟩ := cut h9
    obtain ⟨b5, r11, e11, h11⟩ := cut h10
    have e0 := cutN h11
    subst e0
    subst e11
    subst e10
    subst e9
    subst e8
    subst e7
    subst e6
    subst e5
    subst e4
    subst e3
    subst e2
    subst e1
    exact ⟨(⟨a, ⟨a1, a2, a3⟩, f, t, ⟨b1, b2, b3, b4, b5⟩⟩ : Call), rfl⟩
  | 6, h =>
    obtain ⟨a1, r1, e1, h1⟩ := cut h
    obtain ⟨a2, r2, e2, h2⟩ := cut h1
    obtain ⟨a3, r3, e3, h3⟩ := cut h2
    obtain ⟨a4, r4, e4, h4⟩ := cut h3
    obtain ⟨a5, r5, e5, h5⟩ := cut h4
    obtain ⟨b1, r6, e6, h6⟩ := cut h5
    obtain ⟨b2, r7, e7, h7⟩ := cut h6
    obtain ⟨b3, r8, e8, h8⟩ := cut h7
    obtain ⟨b4, r9, e9, h9⟩ := cut h8
    obtain ⟨b5, r10, e10, h10⟩ := cut h9
    have e0 := cutN h10
    subst e0
    subst e10
    subst e9
    subst e8
    subst e7
    subst e6
    subst e5
    subst e4
    subst e3
    subst e2
    subst e1
    exact ⟨(⟨a1, a2, a3, a4, a5, ⟨b1, b2, b3, b4, b5⟩⟩ : Event), rfl⟩
  | _ + 7, h => exact ⟨(() : Unit), (cutN h).symm⟩
end Go.Lv.Ld
