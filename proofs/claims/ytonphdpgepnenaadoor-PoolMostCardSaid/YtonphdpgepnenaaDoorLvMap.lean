import Derived.Test.YtonphdpgepnenaaDoorLvCall
import Derived.MapKept
namespace Go.Lv
set_option linter.all false
open Go Go.RowKit
variable {S : Nat → Type}

/-- Entries and pairs, one by one. -/
def Ents (q : IntKind) (es : List MapEntry) (l : List (Int × Bool)) : Prop := es.length = l.length ∧ ∀ (j : Nat) (e : MapEntry) (p : Int × Bool), es[j]? = some e → l[j]? = some p → e.key = .int q p.1 ∧ e.val = .bool p.2
theorem find_spec (q q' : IntKind) (n : Int) : ∀ (es : List MapEntry) (l : List (Int × Bool)) (i : Nat), Ents q es l →
    (Instr.findNow (.int q') (.int q n) es i = some none ∧ mget n l = false ∧ ∀ b, mput n b l = l ++ [(n, b)]) ∨
    ∃ j e, es[j]? = some e ∧ Instr.findNow (.int q') (.int q n) es i = some (some (i + j, e.val)) ∧ e.key = .int q n ∧ e.val = .bool (mget n l) ∧ ∀ b, mput n b l = l.set j (n, b)
  | [], [], i, _ => .inl ⟨rfl, rfl, fun _ => rfl⟩
  | [], _ :: _, i, h => by have := h.1; simp at this
  | _ :: _, [], i, h => by have := h.1; simp at this
  | e :: es, p :: l, i, h => by
    obtain ⟨h0, h1⟩ := h.2 0 e p rfl rfl
    have hr : Ents q es l := ⟨by simpa using h.1, fun j e p a b => h.2 (j + 1) e p (by simpa using a) (by simpa using b)⟩
    simp only [Instr.findNow, h0, Instr.sameNow, if_true]
    by_cases hn : n = p.1
    · subst hn
      refine .inr ⟨0, e, rfl, by simp, h0, ?_, fun b => ?_⟩
      · rw [h1]; simp [mget, ieq]
      · simp [mput, ieq]
    · have hb : (n == p.1) = false := by simpa using hn
      have hb2 : ieq n p.1 = false := hb
      rw [hb]
      simp only
      rcases find_spec q q' n es l (i + 1) hr with ⟨r1, r2, r3⟩ | ⟨j, e', r1, r2, r3, r4, r5⟩
      · refine .inl ⟨r1, ?_, fun b => ?_⟩
        · simp only [mget, hb2, cond_false]; exact r2
        · simp only [mput, hb2, cond_false, r3]; rfl
      · refine .inr ⟨j + 1, e', by simpa using r1, ?_, r3, ?_, fun b => ?_⟩
        · rw [r2]; congr 3; omega
        · simp only [mget, hb2, cond_false]; exact r4
        · simp only [mput, hb2, cond_false, r5]; rfl

section
variable {C : Ctx S} {K : Gh} {w : World} {B : Nat} {m : Mem S}
theorem mapKB_inv {t : TypeId} {k : IntKind} (h : mapKB C t = some k) : ∃ kt et, C.P.underlying t = some (.map kt et) ∧ C.P.underlying kt = some (.int k) ∧ (zeroValue et).run C.P w = .ok (.bool false) w := by
  unfold mapKB at h
  split at h
  · rename_i kt et hu
    split at h
    · rename_i q h1 h2
      split at h
      · rename_i hz
        cases h
        refine ⟨kt, et, hu, h1, ?_⟩
        cases hi : C.P.info? et with
        | none => rw [hi] at hz; simp at hz
        | some i =>
          rw [hi] at hz
          simp only [Option.bind_some] at hz
          cases hzz : i.zero with
          | none => rw [hzz] at hz; simp at hz
          | some z =>
            rw [hzz] at hz
            cases z <;> try (simp at hz; done)
            rename_i b
            cases b <;> try (simp at hz; done)
            simp [zeroValue, typeInfo, hi, hzz]
      · rename_i hz
        simp at h
    · cases h
  · cases h
theorem makeMap_res (h : RelM C K w B m) {t : TypeId} {k : IntKind} (hk : mapKB C t = some k) : VRes C K w B ((Instr.makeMap t none).run C.P w) (.mapr m.length) (m ++ [.map (.int k) .bool []]) := by
  have hrun : (Instr.makeMap t none).run C.P w = .ok (.map (some w.heap.size)) (w.alloc (.map #[] 0)) := rfl
  have ho : ObjOK C.E (K.push w.heap.size .nilIface 0 true) (w.alloc (.map #[] 0)) B K.n (.map (.int k) .bool []) := by
    refine ⟨by simp [Gh.push], by simp [Gh.push], #[], 0, by simp only [Gh.push, if_true]; exact heap_new, ⟨rfl, fun j e p q => by simp at q⟩, ?_, ?_⟩
    · simp only [Gh.push, if_true]; exact h.new _ (Nat.le_refl _)
    · simp only [Gh.push, if_true]; exact h.base
  obtain ⟨hr, hx⟩ := h.push (w' := w.alloc (.map #[] 0)) (by simp) (fun k hk => heap_old k hk) (fun _ => Nat.le_refl _) ho
  refine ⟨_, _, _, hrun, hx, below_alloc h _, hr, .mapr _ _ ?_ ⟨_, rfl⟩ fun _ => ?_⟩
  · simp only [Gh.push, h.n]; omega
  · simp [Gh.push, h.n]
theorem map_ob (h : RelM C K w B m) {id : Nat} {k : IntKind} {l : List (Int × Bool)} (hm : m[id]? = some (.map (.int k) .bool l)) : K.gen id = 0 ∧ K.live id = true ∧ ∃ es clock, w.heap[K.ι id]? = some (.map es clock) ∧ Ents k es.toList l ∧ K.σ (K.ι id) = 0 ∧ B ≤ K.ι id := by
  obtain ⟨h0, hl, es, clock, h1, h2, h3, h4⟩ := h.ob id _ hm
  exact ⟨h0, hl, es, clock, h1, ⟨by rw [Array.length_toList]; exact h2.1, fun j e p a b => h2.2 j e p (by rw [← Array.getElem?_toList]; exact a) b⟩, h3, h4⟩
theorem mapGet_res (h : RelM C K w B m) {t : TypeId} {id : Nat} {q : IntKind} {n : Int} {v vi : Value} {y : V S} (hv : RepV C.E K w v (.mapr id)) (hi : RepV C.E K w vi (.cell (.int q) n)) (hx : (semMapGet C m t (.mapr id) q n).opt = some y) :
    VRes C K w B ((Instr.lookup t v vi false).run C.P w) y m := by
  unfold semMapGet at hx
  simp only at hx
  split at hx
  · rename_i k l hm
    split at hx
    · rename_i hc
      obtain ⟨rfl, hk⟩ := hc
      simp only [D.opt, Option.some.injEq] at hx
      subst hx
      rw [int_of hi]
      obtain ⟨g0, hl, es, clock, h1, h2, h3, h4⟩ := map_ob h hm
      obtain ⟨kt, et, hu, hkt, hz⟩ := mapKB_inv (w := w) hk
      cases hv with
      | mapr _ _ hn hp hh =>
        rw [hh g0]
        have hck' : ∀ (d : Nat) (b : Bool), (Instr.checkKey b (d + 1) kt (.int k n)).run C.P w = .ok () w := by
          intro d b; simp [Instr.checkKey, run_underlying hkt]
        have hck : (Instr.checkKey es.isEmpty 10000 kt (.int k n)).run C.P w = .ok () w := hck' 9999 _
        have hgo : (getObj (K.ι id)).run C.P w = .ok (.map es clock) w := by simp [getObj, Sem.run, h1]
        refine VRes.pur h (v := .bool (mget n l)) ?_ (.cell (.bool _))
        rcases find_spec k k n es.toList l 0 h2 with ⟨r1, r2, _⟩ | ⟨j, e, r1, r2, r3, r4, _⟩
        · simp only [Instr.lookup, Sem.run_bind, run_underlying hu, Result.andThen_ok, hgo, Sem.run_pure, hck, Instr.findKey, run_underlying hkt, r1, Bool.false_eq_true, if_false, hz, r2]
        · simp only [Instr.lookup, Sem.run_bind, run_underlying hu, Result.andThen_ok, hgo, Sem.run_pure, hck, Instr.findKey, run_underlying hkt, r2, Bool.false_eq_true, if_false, r4]
    · simp [D.opt] at hx
  · simp [D.opt] at hx
theorem ents_push {q : IntKind} {es : List MapEntry} {l : List (Int × Bool)} (h : Ents q es l) (n : Int) (b : Bool) (c : Nat) : Ents q (es ++ [{ key := .int q n, val := .bool b, born := c }]) (l ++ [(n, b)]) := by
  refine ⟨by simp [h.1], fun j e p he hp => ?_⟩
  by_cases hj : j < es.length
  · rw [List.getElem?_append_left hj] at he
    rw [List.getElem?_append_left (by rw [← h.1]; exact hj)] at hp
    exact h.2 j e p he hp
  · have h1 := (List.getElem?_eq_some_iff.1 he).1
    simp at h1
    have : j = es.length := by omega
    subst this
    rw [List.getElem?_append_right (Nat.le_refl _)] at he
    rw [h.1, List.getElem?_append_right (Nat.le_refl _)] at hp
    simp at he hp
    subst he hp
    exact ⟨rfl, rfl⟩
theorem ents_set {q : IntKind} {es : List MapEntry} {l : List (Int × Bool)} (h : Ents q es l) (i : Nat) (n : Int) (b : Bool) (e' : MapEntry) (h1 : e'.key = .int q n) (h2 : e'.val = .bool b) : Ents q (es.set i e') (l.set i (n, b)) := by
  refine ⟨by simp [h.1], fun j e p he hp => ?_⟩
  rw [List.getElem?_set] at he hp
  by_cases hij : i = j
  · subst hij
    rw [if_pos rfl] at he hp
    split at he
    · split at hp
      · cases he; cases hp; exact ⟨h1, h2⟩
      · cases hp
    · cases he
  · rw [if_neg hij] at he hp
    exact h.2 j e p he hp
theorem stays (k : IntKind) (n : Int) : (Instr.keyThatStays (.int k n) (.int k n)).run C.P w = .ok (.int k n) w := by
  have : Instr.sameBits 10000 (.int k n) (.int k n) = true := by simp [Instr.sameBits]
  simp [Instr.keyThatStays, this]
theorem modify_set {α : Type} : ∀ (l : List α) (j : Nat) (f : α → α) (a : α), l[j]? = some a → l.modify j f = l.set j (f a)
  | [], j, f, a, h => by simp at h
  | b :: l, 0, f, a, h => by simp at h; subst h; simp
  | b :: l, j + 1, f, a, h => by
    have := modify_set l j f a (by simpa using h)
    simp [this]
theorem mapPut_res (h : RelM C K w B m) {t : TypeId} {x i u : V S} {v vi vv : Value} {y : V S} {m' : Mem S} (hv : RepV C.E K w v x) (hi : RepV C.E K w vi i) (hb : RepV C.E K w vv u) (hx : (semMapPut C m t x i u).opt = some (y, m')) :
    y = .undef ∧ ∃ K' w', (Instr.mapUpdate t v vi vv).run C.P w = .ok () w' ∧ Ext K w K' w' ∧ Below B w w' ∧ RelM C K' w' B m' := by
  unfold semMapPut at hx
  split at hx
  · rename_i id q n b
    split at hx
    · rename_i k l hm
      split at hx
      · rename_i hc
        obtain ⟨rfl, hk⟩ := hc
        simp only [D.opt, Option.some.injEq, Prod.mk.injEq] at hx
        obtain ⟨rfl, rfl⟩ := hx
        refine ⟨rfl, ?_⟩
        rw [int_of hi, bool_of hb]
        obtain ⟨g0, hl, es, clock, h1, h2, h3, h4⟩ := map_ob h hm
        obtain ⟨kt, et, hu, hkt, hz⟩ := mapKB_inv (w := w) hk
        have hin : id < K.n := by rw [h.n]; exact (List.getElem?_eq_some_iff.1 hm).1
        have hbk : K.ι id < w.heap.size := h.blk hin hl
        cases hv with
        | mapr _ _ hn hp hh =>
          rw [hh g0]
          have hck' : ∀ (d : Nat) (b : Bool), (Instr.checkKey b (d + 1) kt (.int k n)).run C.P w = .ok () w := by
            intro d b; simp [Instr.checkKey, run_underlying hkt]
          have hck : (Instr.checkKey false 10000 kt (.int k n)).run C.P w = .ok () w := hck' 9999 _
          have hgo : (getObj (K.ι id)).run C.P w = .ok (.map es clock) w := by simp [getObj, Sem.run, h1]
          have hso : ∀ o : Obj, (setObj (K.ι id) o).run C.P w = .ok () { w with heap := w.heap.setIfInBounds (K.ι id) o } := fun o => by simp [setObj, Sem.run, h1]
          -- behind the store
          have fin : ∀ (es' : Array MapEntry) (clock' : Nat), Ents k es'.toList (mput n b l) → ∃ K' w', Result.ok () { w with heap := w.heap.setIfInBounds (K.ι id) (.map es' clock') } = .ok () w' ∧ Ext K w K' w' ∧ Below B w w' ∧ RelM C K' w' B (m.set id (.map (.int k) .bool (mput n b l))) := by
            intro es' clock' hE
            have hoth : ∀ j, j ≠ K.ι id → (w.heap.setIfInBounds (K.ι id) (.map es' clock'))[j]? = w.heap[j]? := fun j hj => by rw [Array.getElem?_setIfInBounds, if_neg (fun q => hj q.symm)]
            have hx : Ext K w K { w with heap := w.heap.setIfInBounds (K.ι id) (.map es' clock') } := by
              refine ⟨Nat.le_refl _, fun i _ => ⟨Nat.le_refl _, fun _ => ⟨rfl, rfl, rfl⟩⟩, fun _ => Nat.le_refl _, fun b o ho => ?_, fun b ob q1 q2 => ?_, .inr rfl⟩
              · have : b ≠ K.ι id := by intro q; subst q; omega
                exact World.cell?_of_block (hoth b this)
              · have : b ≠ K.ι id := by intro q; subst q; omega
                exact keeps.of ((hoth b this).trans q2)
            refine ⟨K, _, rfl, hx, ⟨rfl, rfl, rfl, by simp, fun j hj => hoth j (by omega)⟩, ?_⟩
            refine h.set hin hx rfl (fun j _ _ => ⟨rfl, rfl, rfl, rfl, rfl⟩) (fun b => .inl rfl) (fun j _ hj => hoth j (hj hl)) (by simp) (fun _ => .inl ⟨hl, rfl⟩) (fun b hb => h.new b (by simpa using hb)) ?_
            refine ⟨g0, hl, es', clock', by simp [hbk], ⟨by rw [← Array.length_toList]; exact hE.1, fun j e p a b => hE.2 j e p (by rw [Array.getElem?_toList]; exact a) b⟩, h3, h4⟩
          rcases find_spec k k n es.toList l 0 h2 with ⟨r1, r2, r3⟩ | ⟨j, e, r1, r2, r3, r4, r5⟩
          · have hrun : (Instr.mapUpdate t (.map (some (K.ι id))) (.int k n) (.bool b)).run C.P w = .ok () { w with heap := w.heap.setIfInBounds (K.ι id) (.map (es.push { key := .int k n, val := .bool b, born := clock }) (clock + 1)) } := by
              simp only [Instr.mapUpdate, Sem.run_bind, run_underlying hu, Result.andThen_ok, hgo, hck, Instr.findKey, run_underlying hkt, r1, Sem.run_pure, hso]
            rw [hrun]
            refine fin _ _ ?_
            have e1 : mput n b l = (l ++ [(n, b)] : List (Int × Bool)) := r3 b
            rw [e1, Array.toList_push]
            exact ents_push h2 n b clock
          · have hj : j < es.size := by rw [← Array.length_toList]; exact (List.getElem?_eq_some_iff.1 r1).1
            have hje : es[j]? = some e := by rw [← Array.getElem?_toList]; exact r1
            have hst : (Instr.keyThatStays e.key (.int k n)).run C.P w = .ok (.int k n) w := by
              rw [r3]
              exact stays k n
            have hrun : (Instr.mapUpdate t (.map (some (K.ι id))) (.int k n) (.bool b)).run C.P w = .ok () { w with heap := w.heap.setIfInBounds (K.ι id) (.map (es.modify j fun e => { e with key := .int k n, val := .bool b }) clock) } := by
              simp only [Instr.mapUpdate, Sem.run_bind, run_underlying hu, Result.andThen_ok, hgo, hck, Instr.findKey, run_underlying hkt, r2, Sem.run_pure, Nat.zero_add, hje, Option.map_some, Option.getD_some, hst, hso]
            rw [hrun]
            refine fin _ _ ?_
            have hmod : (es.modify j fun e => { e with key := .int k n, val := .bool b }).toList = es.toList.set j { e with key := .int k n, val := .bool b } := by
              rw [Array.toList_modify]
              exact modify_set _ _ _ _ r1
            have e1 : mput n b l = ((l : List (Int × Bool)).set j (n, b)) := r5 b
            rw [hmod, e1]
            exact ents_set h2 j n b _ rfl rfl
      · simp [D.opt] at hx
    · simp [D.opt] at hx
  · simp [D.opt] at hx
end
end Go.Lv
