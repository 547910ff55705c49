import Derived.Test.YtonphdpgepnenaaDoorLvRegion
namespace Go.Lv
set_option linter.all false
open Go Go.RowKit
variable {S : Nat → Type}

section
variable {C : Ctx S} {cl : Cl S} {all : List Oper}

/-- What is not listed yet. -/
def remOf (n : Nat) (listed : Array Bool) : List Nat := (List.range n).filter fun i => !listed.getD i true

theorem filter_split (n : Nat) (f : Nat → Bool) (i : Nat) (hi : i < n) (hf : f i = true) : ∃ pre post, (List.range n).filter f = pre ++ i :: post ∧ (∀ p, p ∈ pre → p < i ∧ f p = true) ∧ ∀ g : Nat → Bool, (∀ k, g k = (f k && !(k == i))) → (List.range n).filter g = pre ++ post := by
  refine ⟨(List.range i).filter f, ((List.range' (i + 1) (n - i - 1))).filter f, ?_, fun p hp => ?_, fun g hg => ?_⟩
  · have e : List.range n = List.range i ++ i :: List.range' (i + 1) (n - i - 1) := by
      rw [List.range_eq_range', List.range_eq_range', show n = i + (1 + (n - i - 1)) by omega, List.range'_append_1.symm]
      simp only [Nat.zero_add]
      rw [show i + (1 + (n - i - 1)) - i - 1 = n - i - 1 by omega]
      congr 1
      rw [show 1 + (n - i - 1) = (n - i - 1) + 1 by omega, List.range'_succ]
    rw [e, List.filter_append, List.filter_cons_of_pos hf]
  · rw [List.mem_filter, List.mem_range] at hp; exact hp
  · have e : List.range n = List.range i ++ i :: List.range' (i + 1) (n - i - 1) := by
      rw [List.range_eq_range', List.range_eq_range', show n = i + (1 + (n - i - 1)) by omega, List.range'_append_1.symm]
      simp only [Nat.zero_add]
      rw [show i + (1 + (n - i - 1)) - i - 1 = n - i - 1 by omega]
      congr 1
      rw [show 1 + (n - i - 1) = (n - i - 1) + 1 by omega, List.range'_succ]
    rw [e, List.filter_append, List.filter_cons_of_neg (by rw [hg]; simp)]
    congr 1
    · apply List.filter_congr
      intro k hk
      rw [List.mem_range] at hk
      rw [hg]
      have : (k == i) = false := by simp; omega
      simp [this]
    · apply List.filter_congr
      intro k hk
      rw [List.mem_range'_1] at hk
      rw [hg]
      have : (k == i) = false := by simp; omega
      simp [this]

/-- Whatever order is drawn: what is run comes to the same. -/
theorem sched_go (hE : EnvOK C.E) (ops : Array Oper) (hchk : chkRegion C ops.toList = true) : ∀ (fuel t : Nat) (listed : Array Bool) (acc : List Nat), listed.size = ops.size → (remOf ops.size listed).length ≤ fuel →
    (∀ (k : Nat) (o : Oper), listed[k]? = some true → ops[k]? = some o → ∀ e, e ∈ preds o → listed[e]? = some true) →
    ∃ rest, Region.linearise.go .any ops fuel t listed acc = acc.reverse ++ rest ∧ ∀ s s' : St S, runL C cl ops.toList (remOf ops.size listed) s = some s' → runL C cl ops.toList rest s = some s'
  | 0, t, listed, acc, hs, hl, hd => by
    have : remOf ops.size listed = [] := List.eq_nil_of_length_eq_zero (by omega)
    exact ⟨[], by simp [Region.linearise.go], fun s s' h => by rw [this] at h; exact h⟩
  | fuel + 1, t, listed, acc, hs, hl, hd => by
    have hat := fun i o h => chk_at (C := C) (all := ops.toList) (befGo ops.toList []) ops.toList 0 hchk i o h
    simp only [Nat.zero_add] at hat
    simp only [Region.linearise.go]
    generalize hrs : (List.range ops.size).filter (fun i => !listed.getD i true && ((ops[i]?).map (·.after.all fun e => !Region.binds .any e || listed.getD e.on false)).getD false) = rs
    have mem : ∀ i, i ∈ rs ↔ i < ops.size ∧ listed.getD i true = false ∧ ∀ o, ops[i]? = some o → ∀ e, e ∈ preds o → listed[e]? = some true := by
      intro i
      rw [← hrs, List.mem_filter, List.mem_range]
      constructor
      · rintro ⟨h1, h2⟩
        simp only [Bool.and_eq_true, Bool.not_eq_true'] at h2
        refine ⟨h1, h2.1, fun o ho e he => ?_⟩
        have h3 := h2.2
        rw [ho] at h3
        simp only [Option.map_some, Option.getD_some, Array.all_eq_true] at h3
        simp only [preds, List.mem_filterMap] at he
        obtain ⟨ed, hed, he⟩ := he
        split at he
        · rename_i hb
          cases he
          obtain ⟨k, hk, rfl⟩ := List.getElem_of_mem hed
          have := h3 k (by simpa using hk)
          simp only [Array.getElem_toList] at hb
          simp only [Array.getElem_toList, hb, Bool.not_true, Bool.false_or] at this ⊢
          have hlt : (o.after[k]).on < listed.size := by
            by_cases q : (o.after[k]).on < listed.size
            · exact q
            · simp [Array.getD, q] at this
          rw [Array.getElem?_eq_getElem hlt]
          simp only [Array.getD, hlt, dif_pos] at this
          exact congrArg some this
        · cases he
      · rintro ⟨h1, h2, h3⟩
        refine ⟨h1, ?_⟩
        simp only [Bool.and_eq_true, Bool.not_eq_true']
        refine ⟨h2, ?_⟩
        rw [Array.getElem?_eq_getElem h1]
        simp only [Option.map_some, Option.getD_some, Array.all_eq_true]
        intro k hk
        cases hb : Region.binds .any (ops[i].after[k]) with
        | false => rfl
        | true =>
          have := h3 ops[i] (Array.getElem?_eq_getElem h1) (ops[i].after[k]).on (by
            simp only [preds, List.mem_filterMap]
            exact ⟨ops[i].after[k], by simp, by rw [if_pos hb]⟩)
          simp [Array.getD_eq_getD_getElem?, this]
    by_cases hrem : remOf ops.size listed = []
    · have : rs = [] := by
        apply List.eq_nil_iff_forall_not_mem.2
        intro i hi
        obtain ⟨h1, h2, _⟩ := (mem i).1 hi
        have : i ∈ remOf ops.size listed := by simp only [remOf, List.mem_filter, List.mem_range, h2]; exact ⟨h1, rfl⟩
        rw [hrem] at this; cases this
      rw [this]
      refine ⟨[], by simp, fun s s' h => by rw [hrem] at h; exact h⟩
    · -- the first that is not listed is ready
      have hne : rs ≠ [] := by
        obtain ⟨i0, hi0⟩ : ∃ i0, i0 ∈ remOf ops.size listed := by
          cases h : remOf ops.size listed with
          | nil => exact absurd h hrem
          | cons a l => exact ⟨a, by simp⟩
        have hmin : ∀ n, (∃ i, i ≤ n ∧ i ∈ remOf ops.size listed) → ∃ i, i ∈ remOf ops.size listed ∧ ∀ k, k < i → k ∉ remOf ops.size listed := by
          intro n
          induction n with
          | zero => rintro ⟨i, h1, h2⟩; exact ⟨i, h2, fun k hk => by omega⟩
          | succ n ih =>
            rintro ⟨i, h1, h2⟩
            by_cases q : ∃ j, j ≤ n ∧ j ∈ remOf ops.size listed
            · exact ih q
            · exact ⟨i, h2, fun k hk hkk => q ⟨k, by omega, hkk⟩⟩
        obtain ⟨i, h1, h2⟩ := hmin i0 ⟨i0, Nat.le_refl _, hi0⟩
        simp only [remOf, List.mem_filter, List.mem_range] at h1
        intro hnil
        have : i ∈ rs := (mem i).2 ⟨h1.1, by simpa using h1.2, fun o ho e he => by
          obtain ⟨q1, _⟩ := hat i o (by simpa using ho)
          have hei := q1 e he
          have := h2 e hei
          simp only [remOf, List.mem_filter, List.mem_range, not_and] at this
          have hl2 := this (by omega)
          have hes : e < listed.size := by omega
          simp only [Array.getD, hes, dif_pos] at hl2
          rw [Array.getElem?_eq_getElem hes]
          cases hb : listed[e] with
          | true => rfl
          | false =>
            exfalso
            apply hl2
            show (!listed[e]) = true
            rw [hb]; rfl⟩
        rw [hnil] at this; cases this
      have hlen : 0 < rs.length := List.length_pos_iff.2 hne
      have hmod : t % rs.length < rs.length := Nat.mod_lt _ hlen
      rw [List.getElem?_eq_getElem hmod]
      simp only
      generalize hi : rs[t % rs.length] = i
      have hir : i ∈ rs := hi ▸ List.getElem_mem hmod
      obtain ⟨i1, i2, i3⟩ := (mem i).1 hir
      obtain ⟨pre, post, r1, r2, r3⟩ := filter_split ops.size (fun k => !listed.getD k true) i i1 (by simp [i2])
      have his : i < listed.size := by omega
      have hrem' : remOf ops.size (listed.setIfInBounds i true) = pre ++ post := by
        refine r3 _ fun k => ?_
        by_cases q : k = i
        · subst q
          simp [Array.getD_eq_getD_getElem?, Array.getElem?_setIfInBounds, his]
        · have e1 : (k == i) = false := by simp [q]
          rw [e1, Array.getD_eq_getD_getElem?, Array.getD_eq_getD_getElem?, Array.getElem?_setIfInBounds, if_neg (fun r => q r.symm)]
          simp
      obtain ⟨rest, g1, g2⟩ := sched_go hE ops hchk fuel (t / rs.length) (listed.setIfInBounds i true) (i :: acc) (by simpa using hs) (by
        rw [hrem']
        have : (remOf ops.size listed).length = (pre ++ i :: post).length := by rw [remOf, r1]
        simp only [List.length_append, List.length_cons] at this ⊢
        omega) (fun k o hk ho e he => by
          rw [Array.getElem?_setIfInBounds] at hk ⊢
          by_cases q : i = e
          · rw [if_pos q, if_pos his]
          · rw [if_neg q]
            by_cases q' : i = k
            · subst q'; exact i3 o ho e he
            · rw [if_neg q'] at hk; exact hd k o hk ho e he)
      refine ⟨i :: rest, by rw [g1]; simp, fun s s' hrun => ?_⟩
      have hbub := bubble (C := C) (cl := cl) (all := ops.toList) hE i pre post s s' (fun p hp o q ho hq => by
        obtain ⟨p1, p2⟩ := r2 p hp
        obtain ⟨q1, q2⟩ := hat i q hq
        rcases q2 p p1 with hb | hcomp
        · exfalso
          -- all that must be ahead is listed
          have anc : ∀ (n i : Nat) (q : Oper), i ≤ n → ops[i]? = some q → (∀ e, e ∈ preds q → listed[e]? = some true) → ∀ p, ((befGo ops.toList []).getD i 0).testBit p = true → listed[p]? = some true := by
            intro n
            induction n with
            | zero =>
              intro i q hi hq hall p hp
              have : i = 0 := by omega
              subst this
              obtain ⟨e, e1, e2⟩ := bef_bit ops.toList [] 0 q (by simpa using hq) (fun e he => by have := (hat 0 q (by simpa using hq)).1 e he; simpa using this) p (by simpa using hp)
              have := (hat 0 q (by simpa using hq)).1 e e1
              omega
            | succ n ih =>
              intro i q hi hq hall p hp
              obtain ⟨e, e1, e2⟩ := bef_bit ops.toList [] i q (by simpa using hq) (fun e he => by have := (hat i q (by simpa using hq)).1 e he; simpa using this) p (by simpa using hp)
              have hei := (hat i q (by simpa using hq)).1 e e1
              rcases e2 with rfl | e2
              · exact hall e e1
              · have hes : e < ops.size := by have := (Array.getElem?_eq_some_iff.1 hq).1; omega
                exact ih e ops[e] (by omega) (by simp [hes]) (fun e' he' => hd e ops[e] (hall e e1) (by simp [hes]) e' he') p e2
          have hl := anc i i q (Nat.le_refl _) (by simpa using hq) (fun e he => i3 q (by simpa using hq) e he) p hb
          have hps := (Array.getElem?_eq_some_iff.1 hl).1
          simp only [Array.getD, hps, dif_pos] at p2
          rw [Array.getElem?_eq_getElem hps] at hl
          simp only [Option.some.injEq] at hl
          have : (!listed[p]) = true := p2
          rw [hl] at this; cases this
        · exact hcomp o ho)
      have e1 : remOf ops.size listed = pre ++ i :: post := by rw [remOf, r1]
      rw [e1] at hrun
      have h2 := hbub hrun
      simp only [runL] at h2 ⊢
      obtain ⟨s1, h3, h4⟩ := Option.bind_eq_some_iff.1 h2
      rw [h3]
      exact g2 s1 s' (by rw [hrem']; exact h4)

theorem sched_ok (hE : EnvOK C.E) (ops : Array Oper) (hchk : chkRegion C ops.toList = true) (t : Nat) (s s' : St S) (h : runL C cl ops.toList (List.range ops.size) s = some s') : runL C cl ops.toList (Region.schedule true ops t) s = some s' := by
  have h0 : remOf ops.size (Array.replicate ops.size false) = List.range ops.size := by
    unfold remOf
    apply List.filter_eq_self.2
    intro i hi
    rw [List.mem_range] at hi
    simp [Array.getD, hi]
  obtain ⟨rest, h1, h2⟩ := sched_go (C := C) (cl := cl) hE ops hchk ops.size t (Array.replicate ops.size false) [] (by simp) (by rw [h0]; simp) (fun k o hk _ => by
    rw [Array.getElem?_replicate] at hk
    split at hk <;> cases hk)
  have : Region.schedule true ops t = rest := by
    simp only [Region.schedule, Bool.true_or, if_true, Region.linearise]
    rw [h1]; simp
  rw [this]
  exact h2 s s' (by rw [h0]; exact h)

theorem guard_inv {v : Option (V S)} {want b : Bool} (h : guardV v want = some b) : (∃ c : Bool, v = some (.cell .bool c) ∧ b = (c == want)) ∨ (v = some (.tup []) ∧ b = false) := by
  unfold guardV at h
  split at h
  · rename_i c; simp only [Option.some.injEq] at h; exact .inl ⟨c, rfl, h.symm⟩
  · simp only [Option.some.injEq] at h; exact .inr ⟨rfl, h.symm⟩
  · cases h

theorem List.set_same {α : Type} (l : List α) (i : Nat) (a : α) (h : l[i]? = some a) : l.set i a = l := by
  apply List.ext_getElem?
  intro j
  by_cases e : j = i
  · subst e; rw [List.getElem?_set_self (List.getElem?_eq_some_iff.1 h).1, h]
  · rw [List.getElem?_set_ne (fun q => e q.symm)]

/-- The region as it is told is the run in the text's order. -/
theorem semOps_run : ∀ (r : List Oper) (k : Nat) (s s' : St S), (∀ i, r[i]? = all[k + i]?) → (semOps C cl all r s).opt = some s' → runL C cl all (List.range' k r.length) s = some s'
  | [], k, s, s', _, h => by simpa [semOps, D.opt, runL] using h
  | o :: r, k, s, s', hall, h => by
    have ho : all[k]? = some o := by have := hall 0; simpa using this.symm
    have hr : ∀ i, r[i]? = all[k + 1 + i]? := fun i => by have := hall (i + 1); simp only [List.getElem?_cons_succ] at this; rw [this]; congr 1; omega
    rw [List.length_cons, List.range'_succ]
    simp only [runL, stepI, ho, stepO, evalI]
    simp only [semOps] at h
    cases hg : o.guard with
    | none =>
      rw [hg] at h
      simp only at h ⊢
      obtain ⟨p, hp, h⟩ := opt_bind_some h
      rw [hp]
      simp only [Option.map_some, Option.bind_some]
      exact semOps_run r (k + 1) _ s' hr h
    | some g =>
      obtain ⟨j, want⟩ := g
      rw [hg] at h
      simp only at h ⊢
      have hd' : dstOf all j = (all[j]?).bind (·.dst) := rfl
      rw [hd']
      cases hd : (all[j]?).bind (·.dst) with
      | none => rw [hd] at h; simp [D.opt] at h
      | some d =>
        rw [hd] at h
        simp only at h ⊢
        cases ht : s.tmps[d]? with
        | none => rw [ht] at h; simp [D.opt] at h
        | some v =>
          rw [ht] at h
          cases v with
          | cell ty x =>
            cases ty with
            | bool =>
              simp only at h
              have hset : ∀ b : Bool, (x : Bool) = b → ({ s with tmps := s.tmps.set d (.cell .bool b) } : St S) = s := by
                intro b hb
                have : s.tmps.set d (.cell .bool b) = s.tmps := List.set_same _ _ _ (by rw [ht]; exact congrArg (fun z : Bool => some (V.cell (S := S) .bool z)) hb)
                rw [this]
              have fin : ∀ b : Bool, (x : Bool) = b → (if want = b then (semOp C cl s.mem (s.ev C) o).bind fun p => semOps C cl all r (s.put o.dst p) else semOps C cl all r (s.put o.dst (.tup [], s.mem)) : D (St S)).opt = some s' →
                  (Option.map (fun p => s.put o.dst p) (match guardV (some (.cell .bool x)) want with | some true => (semOp C cl s.mem (s.ev C) o).opt | some false => some (.tup [], s.mem) | none => none)).bind (runL C cl all (List.range' (k + 1) r.length)) = some s' := by
                intro b hb h
                have hx : x = b := hb
                subst hx
                have gv : guardV (some (.cell .bool x : V S)) want = some (beqB x want) := rfl
                rw [gv]
                by_cases e : want = (x : Bool)
                · rw [if_pos e] at h
                  have : beqB x want = true := by
                    have : ∀ a b : Bool, b = a → beqB a b = true := by decide
                    exact this x want e
                  rw [this]
                  simp only
                  obtain ⟨p, hp, h⟩ := opt_bind_some h
                  rw [hp]
                  simp only [Option.map_some, Option.bind_some]
                  exact semOps_run r (k + 1) _ s' hr h
                · rw [if_neg e] at h
                  have : beqB x want = false := by
                    have : ∀ a b : Bool, b ≠ a → beqB a b = false := by decide
                    exact this x want e
                  rw [this]
                  simp only [Option.map_some, Option.bind_some]
                  exact semOps_run r (k + 1) _ s' hr h
              rcases split_some h with ⟨hb, h⟩ | ⟨hb, h⟩
              · rw [hset true hb] at h
                refine fin true hb ?_
                cases want <;> simpa using h
              · rw [hset false hb] at h
                refine fin false hb ?_
                cases want <;> simpa using h
            | _ => simp [D.opt] at h
          | tup vs =>
            cases vs with
            | nil =>
              simp only at h
              have gv : guardV (some (.tup [] : V S)) want = some false := rfl
              rw [gv]
              simp only [Option.map_some, Option.bind_some]
              exact semOps_run r (k + 1) _ s' hr h
            | cons _ _ => simp [D.opt] at h
          | _ => simp [D.opt] at h

variable {K : Gh} {w : World} {B : Nat}

theorem RelS.put {s : St S} {a : Act} {K' : Gh} {w' : World} {m' : Mem S} {v : Value} {x : V S} (h : RelS C K w B s a) (hx : Ext K w K' w') (hm : RelM C K' w' B m') (hv : RepV C.E K' w' v x) (d : Option Nat) : RelS C K' w' B (s.put d (x, m')) (a.put d v) := by
  cases d with
  | none => exact ⟨h.size, fun j c u p q => (h.tmps j c u p q).mono hx, h.defers, hm⟩
  | some d =>
    refine ⟨by simp [Act.put, St.put, h.size], fun j c u p q => ?_, h.defers, hm⟩
    simp only [Act.put, St.put] at p q
    by_cases e : j = d
    · subst e
      have hlt : j < s.tmps.length := by have := (List.getElem?_eq_some_iff.1 q).1; simpa using this
      rw [List.getElem?_set_self hlt] at q
      rw [Array.getElem?_setIfInBounds, if_pos rfl] at p
      rw [if_pos (by rw [h.size]; exact hlt)] at p
      cases p; cases q
      exact hv
    · rw [List.getElem?_set_ne (fun r => e r.symm)] at q
      rw [Array.getElem?_setIfInBounds, if_neg (fun r => e r.symm)] at p
      exact (h.tmps j c u p q).mono hx

/-- A region's run in any order that comes to an end. -/
theorem run_ok (hE : EnvOK C.E) (hT : TyOK C) (hS : ∀ f sp, C.spec f = some sp → SpecOK C f sp) (hC : ClOK C cl) (ops : Array Oper) {Q : Exit → Act → World → Prop} : ∀ (l : List Nat) (K : Gh) (w : World) (s s' : St S) (a : Act), RelS C K w B s a → runL C cl ops.toList l s = some s' →
    (∀ K' w' a', Ext K w K' w' → Below B w w' → RelS C K' w' B s' a' → Q .normal a' w') → wpOps C.P ops Q l a w
  | [], K, w, s, s', a, h, hr, hQ => by
    simp only [runL, Option.some.injEq] at hr
    subst hr
    exact hQ K w a (.refl K w) (Below.refl B w) h
  | i :: l, K, w, s, s', a, h, hr, hQ => by
    simp only [runL] at hr
    simp only [wpOps]
    cases hi : ops[i]? with
    | none =>
      have : ops.toList[i]? = none := by simpa using hi
      simp only [stepI, this, Option.bind_some] at hr
      exact run_ok hE hT hS hC ops l K w s s' a h hr hQ
    | some o =>
      have hi' : ops.toList[i]? = some o := by simpa using hi
      simp only [stepI, hi', stepO] at hr
      cases he : evalI C cl ops.toList o s with
      | none => rw [he] at hr; cases hr
      | some p =>
        rw [he] at hr
        simp only [Option.map_some, Option.bind_some] at hr
        obtain ⟨x, m'⟩ := p
        -- it runs
        have runs : (semOp C cl s.mem (s.ev C) o).opt = some (x, m') → o.wp C.P a w (wpOps C.P ops Q l) Q := by
          intro hx
          have hres := semOp_ok hE hT hS hC h.mem (a := a) (ev := s.ev C) h.ev o hx
          unfold Oper.wp
          rcases hres with ⟨K', w', v, hv, e1, e2, e3, e4⟩ | ⟨f, args, hf, hcall⟩
          · have next : wpOps C.P ops Q l (a.put o.dst v) w' := run_ok hE hT hS hC ops l K' w' _ s' _ (h.put e1 e3 e4 o.dst) hr (fun K'' w'' a'' f1 f2 f3 => hQ K'' w'' a'' (e1.trans f1) (e2.trans f2) f3)
            rcases hv with hv | ⟨hv, rfl⟩
            · rw [hv]; exact next
            · rw [hv]; exact next
          · rw [hf]
            refine hcall.mono ?_
            rintro e w' ⟨v, K', rfl, e1, e2, e3, e4⟩
            exact run_ok hE hT hS hC ops l K' w' _ s' _ (h.put e1 e3 e4 o.dst) hr (fun K'' w'' a'' f1 f2 f3 => hQ K'' w'' a'' (e1.trans f1) (e2.trans f2) f3)
        unfold evalI at he
        cases hg : o.guard with
        | none =>
          rw [hg] at he
          simp only at he
          have hw : Region.wanted o (yielded ops a.tmps) = true := by simp [Region.wanted, hg]
          simp only [hw, if_true]
          exact .inl (runs he)
        | some g =>
          obtain ⟨j, want⟩ := g
          rw [hg] at he
          simp only at he
          cases hd : dstOf ops.toList j with
          | none => rw [hd] at he; cases he
          | some d =>
            rw [hd] at he
            simp only at he
            cases hgv : guardV s.tmps[d]? want with
            | none => rw [hgv] at he; cases he
            | some b =>
              rcases guard_inv hgv with ⟨c, hc, hb⟩ | ⟨hc, hb⟩
              · have hdl : d < s.tmps.length := (List.getElem?_eq_some_iff.1 hc).1
                have hda : d < a.tmps.size := by rw [h.size]; exact hdl
                have hval : a.tmps[d]? = some (.bool c) := by
                  have := h.tmps d a.tmps[d] (.cell .bool c) (by simp [hda]) hc
                  rw [Array.getElem?_eq_getElem hda, bool_of this]
                have hy : yielded ops a.tmps j = some c := by
                  have hd2 : (ops[j]?).bind (·.dst) = some d := by simpa [dstOf] using hd
                  simp only [yielded, hd2, Option.bind_some, hval]
                have hw : Region.wanted o (yielded ops a.tmps) = (c == want) := by
                  simp only [Region.wanted, hg, hy]
                  cases c <;> cases want <;> rfl
                show if Region.wanted o (yielded ops a.tmps) = true then _ else _
                rw [hw, ← hb]
                cases b with
                | true =>
                  rw [hgv] at he
                  simp only [if_true]
                  exact .inl (runs he)
                | false =>
                  rw [hgv] at he
                  simp only [Option.some.injEq, Prod.mk.injEq] at he
                  obtain ⟨rfl, rfl⟩ := he
                  simp only [Bool.false_eq_true, if_false]
                  exact run_ok hE hT hS hC ops l K w _ s' _ (h.put (.refl K w) h.mem (.tup #[] [] rfl fun j c v p => by simp at p) o.dst) hr hQ
              · have hdl : d < s.tmps.length := (List.getElem?_eq_some_iff.1 hc).1
                have hda : d < a.tmps.size := by rw [h.size]; exact hdl
                have hval : ∃ cs, a.tmps[d]? = some (.tuple cs) := by
                  have := h.tmps d a.tmps[d] (.tup []) (by simp [hda]) hc
                  rw [Array.getElem?_eq_getElem hda]
                  generalize a.tmps[d] = u at this
                  cases this with
                  | tup cs _ _ _ => exact ⟨cs, rfl⟩
                obtain ⟨cs, hval⟩ := hval
                have hy : yielded ops a.tmps j = none := by
                  have hd2 : (ops[j]?).bind (·.dst) = some d := by simpa [dstOf] using hd
                  simp only [yielded, hd2, Option.bind_some, hval]
                have hw : Region.wanted o (yielded ops a.tmps) = false := by
                  simp only [Region.wanted, hg, hy]
                  cases want <;> rfl
                show if Region.wanted o (yielded ops a.tmps) = true then _ else _
                rw [hw]
                subst hb
                rw [hgv] at he
                simp only [Option.some.injEq, Prod.mk.injEq] at he
                obtain ⟨rfl, rfl⟩ := he
                simp only [Bool.false_eq_true, if_false]
                exact run_ok hE hT hS hC ops l K w _ s' _ (h.put (.refl K w) h.mem (.tup #[] [] rfl fun j c v p => by simp at p) o.dst) hr hQ
end
end Go.Lv
