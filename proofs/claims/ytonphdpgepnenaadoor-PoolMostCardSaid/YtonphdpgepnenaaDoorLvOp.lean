import Derived.Laws.BytesArg
import Derived.Laws.IdiomStrings
import Derived.Laws.Strings3
import Derived.Test.YtonphdpgepnenaaDoorLvMap
namespace Go.Lv
set_option linter.all false
open Go Go.RowKit
variable {S : Nat → Type}

section
variable {C : Ctx S} {K : Gh} {w : World} {B : Nat} {m : Mem S}

theorem OpRes.pur (h : RelM C K w B m) {r : Result Next} {v : Value} {x : V S} (hr : r = .ok (.value v) w) (hv : RepV C.E K w v x) : OpRes C K w B r x m :=
  .inl ⟨K, w, v, .inl hr, .refl K w, Below.refl B w, h, hv⟩

theorem split_some {α : Type} {b : Bool} {x y : D α} {r : α} (h : (D.split b x y).opt = some r) : (b = true ∧ x.opt = some r) ∨ (b = false ∧ y.opt = some r) := by
  cases b
  · exact .inr ⟨rfl, h⟩
  · exact .inl ⟨rfl, h⟩

theorem store_res (hE : EnvOK C.E) (h : RelM C K w B m) {t : TypeId} {a v : Value} {x y z : V S} {m' : Mem S} (ha : RepV C.E K w a x) (hv : RepV C.E K w v y) (hx : (semStore C m t y x).opt = some (z, m')) :
    z = .undef ∧ ∃ K' w', (Instr.storeAt t a v).run C.P w = .ok () w' ∧ Ext K w K' w' ∧ Below B w w' ∧ RelM C K' w' B m' := by
  unfold semStore at hx
  split at hx
  · rename_i id off
    split at hx
    · rename_i cs hm
      split at hx
      · rename_i hc
        obtain ⟨c1, c2, c3⟩ := hc
        simp only [D.opt, Option.some.injEq, Prod.mk.injEq] at hx
        obtain ⟨rfl, rfl⟩ := hx
        obtain ⟨w', q1, q2, q3, q4⟩ := store_box h hm ha hv c1 c2 c3
        exact ⟨rfl, K, w', q1, q2, q3, q4⟩
      · simp [D.opt] at hx
    · simp [D.opt] at hx
  · rename_i id g i off
    split at hx
    · rename_i e T l g' hm
      split at hx
      · rename_i hg
        obtain ⟨rfl, hid⟩ := hg
        simp only [D.opt] at hx
        cases hi : l[i]? with
        | none => rw [hi] at hx; simp at hx
        | some xx =>
          rw [hi] at hx
          simp only [Option.bind_some] at hx
          split at hx
          · rename_i hc
            obtain ⟨c1, c2, c3⟩ := hc
            have hel : (elemCells C.E T xx).length = tsize C.E T := by rw [elemCells_eq, List.length_map, cellsOf_len hE]
            -- a list of one kind of cells
            have one : ∀ (T : Ty) (l : List (den S T)) (xx : den S T), (∀ n, T ≠ .st n) → m[id]? = some (.arr e T l g false) → l[i]? = some xx → off + y.cells.length ≤ (elemCells C.E T xx).length →
                ((D.ofOpt (decLeaf m T y)).bind fun y' => (.ret (V.undef, (mark m y.owns).set id (.arr e T (l.set i y') g false)) : D (V S × Mem S))).opt = some (z, m') →
                z = .undef ∧ ∃ K' w', (Instr.storeAt t a v).run C.P w = .ok () w' ∧ Ext K w K' w' ∧ Below B w w' ∧ RelM C K' w' B m' := by
              intro T l xx hT hm hi c3 hx
              obtain ⟨y', hy, hx⟩ := opt_ofOpt_bind hx
              simp only [D.opt, Option.some.injEq, Prod.mk.injEq] at hx
              obtain ⟨rfl, rfl⟩ := hx
              have hcl : ∀ u : den S T, cellsOf C.E T u = [⟨T, u⟩] := by intro u; cases T <;> first | rfl | (exact absurd rfl (hT _))
              have hce : elemCells C.E T xx = [.cell T xx] := by rw [elemCells_eq, hcl]; rfl
              have hyc : y.cells = [y] := by
                cases y with
                | agg cs =>
                  exfalso
                  cases T <;> first | (simp [decLeaf] at hy; done) | (exact absurd rfl (hT _))
                | _ => rfl
              rw [hce, hyc] at c3
              simp only [List.length_cons, List.length_nil] at c3
              have ho : off = 0 := by omega
              obtain ⟨K', w', q1, q2, q3, q4⟩ := store_arr hE h hm hi (y' := y') ha hv hid c1 c2 (by rw [hce, hyc]; simpa using c3) (fun j u cl hj hcj => by
                rw [hce, hyc, ho] at hj
                rw [hcl] at hcj
                simp only [setCells, List.set_cons_zero] at hj
                cases j with
                | zero => simp at hj hcj; subst hj hcj; exact hy
                | succ j => simp at hj)
              exact ⟨rfl, K', w', q1, q2, q3, q4⟩
            cases T with
            | st n =>
              obtain ⟨y', hy, hx⟩ := opt_ofOpt_bind hx
              simp only [D.opt, Option.some.injEq, Prod.mk.injEq] at hx
              obtain ⟨rfl, rfl⟩ := hx
              obtain ⟨k1, k2⟩ := hE.back n (decLeaf m) _ _ hy
              obtain ⟨K', w', q1, q2, q3, q4⟩ := store_arr hE h hm hi (y' := y') ha hv hid c1 c2 c3 (fun j u cl hj hcj => k2 j u cl hj hcj)
              exact ⟨rfl, K', w', q1, q2, q3, q4⟩
            | bool => exact one .bool l xx (fun n q => by cases q) hm hi c3 hx
            | int k => exact one (.int k) l xx (fun n q => by cases q) hm hi c3 hx
            | str => exact one .str l xx (fun n q => by cases q) hm hi c3 hx
            | err => exact one .err l xx (fun n q => by cases q) hm hi c3 hx
            | fn => exact one .fn l xx (fun n q => by cases q) hm hi c3 hx
            | slice t => exact one (.slice t) l xx (fun n q => by cases q) hm hi c3 hx
          · simp [D.opt] at hx
      · simp [D.opt] at hx
    · simp [D.opt] at hx
  · simp [D.opt] at hx

theorem str_slice_res (h : RelM C K w B m) {st : TypeId} (hu : C.P.underlying st = some .string) {v : Value} {x : V S} {lo hi mx : Option Value} {lo' hi' mx' : Option (V S)} {y : V S}
    (hv : RepV C.E K w v x) (hx : (semStr x lo' hi' mx').opt = some y)
    (h1 : ∀ x, lo' = some x → ∃ v, lo = some v ∧ RepV C.E K w v x) (h1' : lo' = none → lo = none)
    (h2 : ∀ x, hi' = some x → ∃ v, hi = some v ∧ RepV C.E K w v x) (h2' : hi' = none → hi = none) (h3' : mx' = none → mx = none) :
    VRes C K w B ((Instr.sliceAt st v lo hi mx).run C.P w) y m := by
  have cut : ∀ (l : List UInt8) (a b : Int) (z : V S), (strCut (S := S) l a b).opt = some z → 0 ≤ a ∧ a ≤ b ∧ b ≤ (l.length : Int) ∧ z = .cell .str ((l.drop a.toNat).take (b.toNat - a.toNat)) := by
    intro l a b z hz
    unfold strCut at hz
    simp only [D.opt] at hz
    by_cases q : 0 ≤ a ∧ a ≤ b ∧ b ≤ (l.length : Int)
    · simp only [q, and_self, decide_true, cond_true, Option.some.injEq] at hz
      exact ⟨q.1, q.2.1, q.2.2, hz.symm⟩
    · simp [q] at hz
  have sz : ∀ l : List UInt8, (⟨l.toArray⟩ : ByteArray).size = l.length := fun l => by simp [ByteArray.size]
  have kA : ∀ l : List UInt8, (Instr.slice st (.string ⟨l.toArray⟩) none none none).run C.P w = .ok (.string ⟨l.toArray⟩) w := fun l => by
    rw [Go.run_slice_string_all w st _ hu, sz, ByteArray.extract_mk]; simp
  have kL : ∀ (l : List UInt8) (a : Int), 0 ≤ a → a ≤ (l.length : Int) → (Instr.slice st (.string ⟨l.toArray⟩) (some (.int .i64 a)) none none).run C.P w = .ok (.string ⟨((l.drop a.toNat).take ((l.length : Int).toNat - a.toNat)).toArray⟩) w := fun l a c1 c2 => by
    rw [Go.run_slice_string_l w st _ hu .i64 a c1 (by rw [sz]; exact c2), sz, ByteArray.extract_mk, Int.toNat_natCast]
  have kH : ∀ (l : List UInt8) (b : Int), 0 ≤ b → b ≤ (l.length : Int) → (Instr.slice st (.string ⟨l.toArray⟩) none (some (.int .i64 b)) none).run C.P w = .ok (.string ⟨((l.drop (0 : Int).toNat).take (b.toNat - (0 : Int).toNat)).toArray⟩) w := fun l b c1 c2 => by
    rw [Go.run_slice_string_h w st _ hu .i64 b c1 (by rw [sz]; exact c2), ByteArray.extract_mk]; rfl
  have kB : ∀ (l : List UInt8) (a b : Int), 0 ≤ a → a ≤ b → b ≤ (l.length : Int) → (Instr.slice st (.string ⟨l.toArray⟩) (some (.int .i64 a)) (some (.int .i64 b)) none).run C.P w = .ok (.string ⟨((l.drop a.toNat).take (b.toNat - a.toNat)).toArray⟩) w := fun l a b c1 c2 c3 => by
    rw [Go.run_slice_string w st _ .i64 .i64 a b hu c1 c2 (by rw [sz]; exact c3), ByteArray.extract_mk]
  unfold semStr at hx
  split at hx
  · rename_i l
    rw [str_of hv, h3' rfl, run_sliceAt_string w st _ _ _ _ hu]
    split at hx
    · simp only [D.opt, Option.some.injEq] at hx
      subst hx
      rw [h1' rfl, h2' rfl]
      exact VRes.pur h (kA l) (.cell (.str l))
    · rename_i a
      obtain ⟨c1, c2, c3, rfl⟩ := cut _ _ _ _ hx
      obtain ⟨u, e, r⟩ := h1 _ rfl
      rw [e, int_of r, h2' rfl]
      exact VRes.pur h (kL l a c1 c2) (.cell (.str _))
    · rename_i b
      obtain ⟨c1, c2, c3, rfl⟩ := cut _ _ _ _ hx
      obtain ⟨u, e, r⟩ := h2 _ rfl
      rw [e, int_of r, h1' rfl]
      exact VRes.pur h (kH l b c2 c3) (.cell (.str _))
    · rename_i a b
      obtain ⟨c1, c2, c3, rfl⟩ := cut _ _ _ _ hx
      obtain ⟨u, e, r⟩ := h1 _ rfl
      obtain ⟨u', e', r'⟩ := h2 _ rfl
      rw [e, e', int_of r, int_of r']
      exact VRes.pur h (kB l a b c1 c2 c3) (.cell (.str _))
    · simp [D.opt] at hx
  · simp [D.opt] at hx

theorem bytes_res (hE : EnvOK C.E) (h : RelM C K w B m) {src dst : TypeId} (hd : C.P.underlying dst = some .string) {v : Value} {x y : V S} {m' : Mem S} (hv : RepV C.E K w v x) (hx : (semBytes C m src x).opt = some (y, m')) :
    VRes C K w B ((convert src dst v).run C.P w) y m' := by
  unfold semBytes at hx
  split at hx
  · rename_i e hs
    split at hx
    · rename_i he
      obtain ⟨l, hl, hx⟩ := opt_ofOpt_bind hx
      simp only [D.opt, Option.some.injEq, Prod.mk.injEq] at hx
      obtain ⟨rfl, rfl⟩ := hx
      obtain ⟨K1, x1, s1, r1, f1⟩ := freeze h x.owns
      have hrep : Rep C.E K1.σ w v (.slice (.int .u8)) l := by
        refine decLeaf_rep r1 (hv.mono x1) (by rw [decLeaf_like (mark_like m _)]; exact hl) (fun id g q => ?_)
        subst q; exact f1
      have kN : ∀ (a : Option Addr) (cap : Nat), (convert src dst (.slice a 0 cap)).run C.P w = .ok (.string ⟨[].toArray⟩) w := by
        intro a cap
        cases a with
        | none => exact run_convert_bytes_nil w src e hs he 0 cap dst hd
        | some p => exact run_convert_bytes_back w src dst e p cap [] hs he hd (fun j hj => by simp at hj)
      have kS : ∀ (l : List Int) (b off cap : Nat), (∀ i (hi : i < l.length), w.cell? ⟨b, off + i, none⟩ = some (.int .u8 l[i])) → (convert src dst (.slice (some ⟨b, off, none⟩) l.length cap)).run C.P w = .ok (.string ⟨(strOf l).toArray⟩) w := by
        intro l b off cap hc
        refine run_convert_bytes_arg (P := C.P) w src e hs he b off l.length cap l rfl (fun i hi => ?_) dst hd
        rw [hc i hi]
        simp [List.getD, List.getElem?_eq_getElem hi]
      have key : (convert src dst v).run C.P w = .ok (.string ⟨(strOf l).toArray⟩) w := by
        cases hrep with
        | nil _ a cap => exact kN a cap
        | slice _ _ b off cap vs hcap hst hc hr =>
          refine kS l b off cap fun i hi => ?_
          have e1 := hc i (by have := hi; simp only [tsize, Nat.mul_one]; exact this)
          have e2 := hr i _ (List.getElem?_eq_getElem hi) 0 ⟨.int .u8, l[i]⟩ rfl
          simp only [tsize, Nat.mul_one, Nat.add_zero] at e2
          rw [e1]
          exact congrArg some e2.int_inv
      exact ⟨K1, w, _, key, x1, Below.refl B w, r1, .cell (.str _)⟩
    · simp [D.opt] at hx
  · simp [D.opt] at hx

theorem asCell_some {T : Ty} {v : V S} {x : den S T} (h : asCell T v = some x) : v = .cell T x := by
  unfold asCell at h
  split at h
  · split at h
    · rename_i e; subst e; cases h; rfl
    · cases h
  · cases h

theorem boxAll_res (hE : EnvOK C.E) (hT : TyOK C) (h : RelM C K w B m) {t : TypeId} {n : Nat} {e : TypeId} (hu : C.P.underlying t = some (.array n e)) {v : Value} {x y : V S} {m' : Mem S} (hv : RepV C.E K w v x) (hx : (semBoxAll C m n e x).opt = some (y, m')) :
    VRes C K w B ((Instr.sliceAt t v none none none).run C.P w) y m' := by
  unfold semBoxAll at hx
  split at hx
  · rename_i id
    split at hx
    · rename_i cs fz hm
      obtain ⟨T, hty, hx⟩ := opt_ofOpt_bind hx
      split at hx
      · rename_i hc
        obtain ⟨hc1, hc2⟩ := hc
        obtain ⟨l, hl, hx⟩ := opt_ofOpt_bind hx
        simp only [D.opt, Option.some.injEq, Prod.mk.injEq] at hx
        obtain ⟨rfl, rfl⟩ := hx
        obtain ⟨hll, hlg⟩ := allM_get _ _ hl
        simp only [List.length_map] at hll
        have hlt : id < m.length := (List.getElem?_eq_some_iff.1 hm).1
        have hin : id < K.n := h.n ▸ hlt
        obtain ⟨hg, hlive, c, te, p1, p2, p3, p4, p5⟩ := h.ob id _ hm
        let K' : Gh := { K with σ := fun b => if b = K.ι id then max (K.σ b) c.size else K.σ b }
        have hx' : Ext K w K' w := ⟨Nat.le_refl _, fun i _ => ⟨Nat.le_refl _, fun _ => ⟨rfl, rfl, rfl⟩⟩, fun b => by simp only [K']; split <;> omega, fun _ _ _ => rfl, fun _ _ _ q => keeps.of q, .inr rfl⟩
        have hr : RelM C K' w B (m.set id (.box cs true)) := by
          refine h.set hin hx' rfl (fun j _ _ => ⟨rfl, rfl, rfl, rfl, rfl⟩) (fun b => ?_) (fun k _ _ => rfl) (Nat.le_refl _) (fun _ => .inl ⟨hlive, rfl⟩) (fun b hb => ?_) ?_
          · by_cases q : b = K.ι id
            · exact .inr ⟨hlive, q⟩
            · left; simp only [K', q, if_false]
          · have : b ≠ K.ι id := by have := h.blk hin hlive; omega
            simp only [K', this, if_false]; exact h.new b hb
          · exact ⟨hg, hlive, c, te, p1, p2, fun j v x q1 q2 => (p3 j v x q1 q2).mono hx', fun q => (by cases q), p5⟩
        obtain ⟨i, z, hi, hsz, hz, hzs, hpos, hby⟩ := hT e T hty
        have hcl : ∀ u : den S T, cellsOf C.E T u = [⟨T, u⟩] ∨ ∃ q, T = .st q := by intro u; cases T <;> first | exact .inl rfl | exact .inr ⟨_, rfl⟩
        cases hv with
        | ptr _ _ _ hn hp hh =>
          rw [hh hg]
          have harr : C.P.arrayLen t = n := by simp [Program.arrayLen, hu]
          have helm : C.P.elem t = e := by simp [Program.elem, hu]
          have hrun : (Instr.sliceAt t (.pointer (some ⟨K.ι id, 0, none⟩)) none none none).run C.P w = .ok (.slice (some ⟨K.ι id, 0, none⟩) l.length l.length) w := by
            rw [run_sliceAt_array_all w t _ (by rw [harr, helm]; exact hu), harr, helm, run_sizeOf (hT.size hty)]
            simp only [Result.andThen_ok, slicedAt]
            have : l.length = n := by rw [hll, hc1]
            rw [this]
            by_cases q : n = 0
            · subst q; simp
            · rw [if_neg q]; simp [add_lit]
          refine ⟨K', w, _, hrun, hx', Below.refl B w, hr, .full (.slice T l (K.ι id) 0 l.length (fun j => c.getD j Go.undef) (Nat.le_refl _) ?_ (fun j hj => ?_) (fun k x hk j cl hj => ?_))⟩
          · rw [hc2]; simp only [K', if_true]; omega
          · rw [hc2, Nat.mul_one] at hj
            have hjc : j < c.size := by omega
            simp [World.cell?, p1, Array.getD, hjc]
          · rw [hc2, Nat.mul_one]
            have hkl := (List.getElem?_eq_some_iff.1 hk).1
            have hk2 := hlg k x hk
            rw [List.getElem?_map, List.getElem?_eq_getElem (by omega)] at hk2
            simp only [Option.map_some, Option.some.injEq] at hk2
            have hcs := asCell_some hk2
            have hkc : k < c.size := by omega
            have hrp := p3 k c[k] cs[k] (by simp [hkc]) (by simp)
            rw [hcs] at hrp
            have hone : j = 0 ∧ cl = ⟨T, x⟩ := by
              rcases hcl x with q | ⟨q, rfl⟩
              · rw [q] at hj
                cases j with
                | zero => simp at hj; exact ⟨rfl, hj.symm⟩
                | succ j => simp at hj
              · exfalso
                exact (cell_inv hrp).st_inv
            obtain ⟨rfl, rfl⟩ := hone
            have : c.getD (k + 0) Go.undef = c[k] := by simp [Array.getD, hkc]
            rw [this]
            exact (cell_inv hrp).mono hx'.σ hx'.cell
      · simp [D.opt] at hx
    · simp [D.opt] at hx
  · simp [D.opt] at hx

theorem callMethod_ifc {t : TypeId} {nm : String} {f : FuncId} (h : mthOf C t nm = some f) (args : Array Value) : (callMethod (.iface t (.agg #[])) nm args).run C.P w = (callFunc f (#[Value.agg #[]] ++ args)).run C.P w := by
  unfold mthOf at h
  split at h
  · rename_i i hi
    split at h
    · rename_i r hr
      split at h
      · rename_i fs hp hfn hu
        cases h
        have hm : ∀ k, (method (k + 1) t (.agg #[]) nm).run C.P w = .ok (f, .agg #[]) w := by
          intro k
          simp [method, typeInfo, hi, hr, hp, hfn, follow, receiverAt, run_underlying hu, Place.get]
        obtain ⟨k, hk⟩ : ∃ k, C.P.types.size + Made.depth = k + 1 := ⟨C.P.types.size + Made.depth - 1, by
          have : 0 < Made.depth := by decide
          omega⟩
        simp only [callMethod, Sem.run_bind, run_program, Result.andThen_ok, hk, hm]
      · cases h
    · cases h
  · cases h

theorem lenOk_inv {t : TypeId} {x : V S} (h : lenOk C t x = true) : ((∃ e, C.P.underlying t = some (.slice e)) ∨ C.P.underlying t = some .string) ∧ (C.P.underlying t = some .string ↔ ∃ l, x = .cell .str l) := by
  unfold lenOk at h
  cases hu : C.P.underlying t with
  | none => rw [hu] at h; cases h
  | some d =>
    rw [hu] at h
    cases d with
    | string =>
      cases x with
      | cell t' l => cases t' <;> first | exact ⟨.inr rfl, fun _ => ⟨l, rfl⟩, fun _ => rfl⟩ | cases h
      | _ => cases h
    | slice e =>
      refine ⟨.inl ⟨e, rfl⟩, ⟨fun q => (by cases q), ?_⟩⟩
      rintro ⟨l, q⟩
      subst q; cases h
    | _ => cases h

theorem args_two {α β : Type} {xs : Array α} {a b : α} (h : xs.toList = [a, b]) (f : α → β) : xs.map f = #[f a, f b] := by
  apply Array.ext'; simp [h]
theorem args_one {α β : Type} {xs : Array α} {a : α} (h : xs.toList = [a]) (f : α → β) : xs.map f = #[f a] := by
  apply Array.ext'; simp [h]
theorem arr_two {α : Type} {xs : Array α} {a b : α} (h : xs.toList = [a, b]) : xs = #[a, b] := by apply Array.ext'; simp [h]
theorem arr_one {α : Type} {xs : Array α} {a : α} (h : xs.toList = [a]) : xs = #[a] := by apply Array.ext'; simp [h]

/-- An operation's run comes to what is told of it. -/
theorem semOp_ok (hE : EnvOK C.E) (hT : TyOK C) (hS : ∀ f sp, C.spec f = some sp → SpecOK C f sp) {cl : Cl S} (hC : ClOK C cl) (h : RelM C K w B m) {a : Act} {ev : Operand → V S} (hev : ∀ x, RepV C.E K w (a.eval x) (ev x)) (o : Oper) {y : V S} {m' : Mem S}
    (hx : (semOp C cl m ev o).opt = some (y, m')) : OpRes C K w B ((execOp a.eval o).run C.P w) y m' := by
  unfold semOp at hx
  unfold execOp
  cases hop : o.op with
  | move x =>
    simp only [hop, D.opt, Option.some.injEq, Prod.mk.injEq] at hx ⊢
    obtain ⟨rfl, rfl⟩ := hx
    exact OpRes.pur h rfl (hev x)
  | assign x =>
    simp only [hop, D.opt, Option.some.injEq, Prod.mk.injEq] at hx ⊢
    obtain ⟨rfl, rfl⟩ := hx
    exact OpRes.pur h rfl (hev x)
  | pick c p q =>
    simp only [hop] at hx ⊢
    split at hx
    · rename_i t hc
      have hb : a.eval c = .bool t := bool_of (by rw [← hc]; exact hev c)
      rcases split_some hx with ⟨rfl, e⟩ | ⟨rfl, e⟩ <;> (simp only [D.opt, Option.some.injEq, Prod.mk.injEq] at e; obtain ⟨rfl, rfl⟩ := e)
      · exact OpRes.pur h (v := a.eval p) (by simp [hb, asBool]) (hev p)
      · exact OpRes.pur h (v := a.eval q) (by simp [hb, asBool]) (hev q)
    · simp [D.opt] at hx
  | alloc t =>
    simp only [hop] at hx ⊢
    obtain ⟨z, hz, hx⟩ := opt_ofOpt_bind hx
    simp only [D.opt, Option.some.injEq, Prod.mk.injEq] at hx
    obtain ⟨rfl, rfl⟩ := hx
    exact (alloc_res h hz).val
  | box t x =>
    simp only [hop] at hx ⊢
    split at hx
    · rename_i hd
      simp only [D.opt, Option.some.injEq, Prod.mk.injEq] at hx
      obtain ⟨rfl, rfl⟩ := hx
      exact (box_res h (hev x) hd).val
    · simp [D.opt] at hx
  | build t parts =>
    simp only [hop] at hx ⊢
    obtain ⟨u, hu, e⟩ := opt_bind_ret hx
    simp only [Prod.mk.injEq] at e
    obtain ⟨rfl, rfl⟩ := e
    refine (build_res h (by simp) (fun j p q hp hq => ?_) hu).val
    simp only [Array.toList_map, List.getElem?_map] at hp hq
    cases hj : parts.toList[j]? with
    | none => rw [hj] at hp; simp at hp
    | some p0 =>
      rw [hj] at hp hq
      simp only [Option.map_some, Option.some.injEq] at hp hq
      subst hp hq
      exact ⟨rfl, hev _⟩
  | buildSlice t len parts =>
    simp only [hop] at hx ⊢
    refine (buildSlice_res hE hT h (by simp) (fun j p q hp hq => ?_) hx).val
    simp only [Array.toList_map, List.getElem?_map] at hp hq
    cases hj : parts.toList[j]? with
    | none => rw [hj] at hp; simp at hp
    | some p0 =>
      rw [hj] at hp hq
      simp only [Option.map_some, Option.some.injEq] at hp hq
      subst hp hq
      exact ⟨rfl, hev _⟩
  | load t x =>
    simp only [hop] at hx ⊢
    obtain ⟨rfl, q⟩ := load_res hE h (hev x) hx
    exact q.val
  | store t x v =>
    simp only [hop] at hx ⊢
    obtain ⟨rfl, K', w', q1, q2, q3, q4⟩ := store_res hE h (hev x) (hev v) hx
    exact .inl ⟨K', w', Go.undef, .inr ⟨by simp [q1], rfl⟩, q2, q3, q4, .undef _⟩
  | nilCheck x =>
    simp only [hop] at hx ⊢
    have hv := hev x
    split at hx <;> simp only [D.opt, Option.some.injEq, Prod.mk.injEq, reduceCtorEq] at hx
    · rename_i id off he
      obtain ⟨rfl, rfl⟩ := hx
      rw [he] at hv
      obtain ⟨ad, e⟩ : ∃ ad, a.eval x = .pointer (some ad) := by generalize a.eval x = u at hv; cases hv with | ptr _ _ _ _ hp _ => exact hp
      rw [e] at hv ⊢
      exact OpRes.pur h rfl hv
    · rename_i id g i off he
      obtain ⟨rfl, rfl⟩ := hx
      rw [he] at hv
      obtain ⟨ad, e⟩ : ∃ ad, a.eval x = .pointer (some ad) := by generalize a.eval x = u at hv; cases hv with | eptr _ _ _ _ _ _ _ hp _ => exact hp
      rw [e] at hv ⊢
      exact OpRes.pur h rfl hv
    · rename_i cs he
      obtain ⟨rfl, rfl⟩ := hx
      rw [he] at hv
      obtain ⟨b, off, e⟩ := ro_pointer hv
      rw [e] at hv ⊢
      exact OpRes.pur h rfl hv
    · rename_i f a' b' he
      obtain ⟨rfl, rfl⟩ := hx
      rw [he] at hv
      obtain ⟨f1, f2, e⟩ : ∃ f1 f2, a.eval x = .func (.func f) f1 f2 := by generalize a.eval x = u at hv; cases hv; exact ⟨_, _, rfl⟩
      rw [e] at hv ⊢
      exact OpRes.pur h rfl hv
  | binOp op t x z t' =>
    simp only [hop] at hx ⊢
    obtain ⟨u, hu, e⟩ := opt_bind_ret hx
    simp only [Prod.mk.injEq] at e
    obtain ⟨rfl, rfl⟩ := e
    obtain ⟨r, r1, r2⟩ := bin_run op t x z (a.eval x) (a.eval z) _ _ u (hev x) (hev z) _ (by intro hy; cases z <;> first | exact ⟨_, rfl⟩ | cases hy) hu
    exact (VRes.pur h r1 r2).val
  | unOp op t x =>
    simp only [hop] at hx ⊢
    obtain ⟨u, hu, e⟩ := opt_bind_ret hx
    simp only [Prod.mk.injEq] at e
    obtain ⟨rfl, rfl⟩ := e
    exact (unary_res h (hev x) hu).val
  | convert src dst x =>
    simp only [hop] at hx ⊢
    split at hx
    · rename_i k k' n hd he
      split at hx
      · rename_i hs
        simp only [D.opt, Option.some.injEq, Prod.mk.injEq] at hx
        obtain ⟨rfl, rfl⟩ := hx
        exact (convert_res h hs hd (by rw [← he]; exact hev x)).val
      · simp [D.opt] at hx
    · rename_i hd
      exact (bytes_res hE h hd (hev x) hx).val
    · simp [D.opt] at hx
  | makeFunc fn first caps =>
    simp only [hop] at hx ⊢
    cases fn with
    | func f =>
      simp only [D.opt, Option.some.injEq, Prod.mk.injEq] at hx
      obtain ⟨rfl, rfl⟩ := hx
      refine (VRes.pur h (v := .func (.func f) (first.map a.eval) (caps.map a.eval)) rfl (.clo f _ _ _ _ (by simp) (by simp) (fun j c v hc hv => ?_) (fun j c v hc hv => ?_))).val
      · simp only [Array.getElem?_map, List.getElem?_map, Array.getElem?_toList] at hc hv
        cases hj : first[j]? with
        | none => rw [hj] at hc; simp at hc
        | some p0 => rw [hj] at hc hv; simp only [Option.map_some, Option.some.injEq] at hc hv; subst hc hv; exact hev _
      · simp only [Array.getElem?_map, List.getElem?_map, Array.getElem?_toList] at hc hv
        cases hj : caps[j]? with
        | none => rw [hj] at hc; simp at hc
        | some p0 => rw [hj] at hc hv; simp only [Option.map_some, Option.some.injEq] at hc hv; subst hc hv; exact hev _
    | _ => simp [D.opt] at hx
  | makeSlice t len cap =>
    simp only [hop] at hx ⊢
    exact (make_res hE hT h (hev len) (hev cap) hx).val
  | slice t x lo hi mx =>
    simp only [hop] at hx ⊢
    split at hx
    · rename_i e hu
      obtain ⟨T, hty, hx⟩ := opt_ofOpt_bind hx
      have hm : ∀ (z : Option Operand) (u : V S), z.map ev = some u → ∃ v, z.map a.eval = some v ∧ RepV C.E K w v u := by
        intro z u hz
        cases z with
        | none => cases hz
        | some z => simp only [Option.map_some, Option.some.injEq] at hz; subst hz; exact ⟨_, rfl, hev z⟩
      have hn : ∀ (z : Option Operand), z.map ev = none → z.map a.eval = none := by
        intro z hz; cases z <;> simp at hz ⊢
      exact (slice_res hT h hu hty (hev x) hx (hm lo) (hn lo) (hm hi) (hn hi) (hm mx) (hn mx)).val
    · rename_i hu
      obtain ⟨u, hu', e⟩ := opt_bind_ret hx
      simp only [Prod.mk.injEq] at e
      obtain ⟨rfl, rfl⟩ := e
      have hm : ∀ (z : Option Operand) (u : V S), z.map ev = some u → ∃ v, z.map a.eval = some v ∧ RepV C.E K w v u := by
        intro z u hz
        cases z with
        | none => cases hz
        | some z => simp only [Option.map_some, Option.some.injEq] at hz; subst hz; exact ⟨_, rfl, hev z⟩
      have hn : ∀ (z : Option Operand), z.map ev = none → z.map a.eval = none := by
        intro z hz; cases z <;> simp at hz ⊢
      exact (str_slice_res h hu (hev x) hu' (hm lo) (hn lo) (hm hi) (hn hi) (hn mx)).val
    · rename_i n e hu
      split at hx
      · exact (boxAll_res hE hT h hu (hev x) hx).val
      · simp [D.opt] at hx
    · simp [D.opt] at hx
  | fieldAddr s x f =>
    simp only [hop] at hx ⊢
    obtain ⟨p, hp, hx⟩ := opt_ofOpt_bind hx
    obtain ⟨u, hu, e⟩ := opt_bind_ret hx
    simp only [Prod.mk.injEq] at e
    obtain ⟨rfl, rfl⟩ := e
    exact (fieldAddr_res h hp (hev x) hu).val
  | field s x f =>
    simp only [hop] at hx ⊢
    obtain ⟨p, hp, hx⟩ := opt_ofOpt_bind hx
    obtain ⟨u, hu, e⟩ := opt_bind_ret hx
    simp only [Prod.mk.injEq] at e
    obtain ⟨rfl, rfl⟩ := e
    exact (field_res h hp (hev x) hu).val
  | indexAddr t x i =>
    simp only [hop] at hx ⊢
    obtain ⟨rfl, q⟩ := indexAddr_res hE hT h (hev x) (hev i) hx
    exact q.val
  | index t x i =>
    simp only [hop] at hx ⊢
    obtain ⟨u, hu, e⟩ := opt_bind_ret hx
    simp only [Prod.mk.injEq] at e
    obtain ⟨rfl, rfl⟩ := e
    exact (index_res h (hev x) (hev i) hu).val
  | lookup t x i ok =>
    simp only [hop] at hx ⊢
    cases ok with
    | true =>
      simp only at hx
      split at hx
      · rename_i hmz
        obtain ⟨hmi, hz⟩ := hmz
        split at hx
        · rename_i es n h1 h2
          obtain ⟨u, hu, e⟩ := opt_bind_ret hx
          simp only [Prod.mk.injEq] at e
          obtain ⟨rfl, rfl⟩ := e
          unfold mapInt at hmi
          split at hmi
          · rename_i kt et hut
            split at hmi
            · rename_i k hk
              exact (lookupOk_res h hut hk hz (by rw [← h1]; exact hev x) (by rw [← h2]; exact hev i) hu).val
            · cases hmi
          · cases hmi
        · simp [D.opt] at hx
      · simp [D.opt] at hx
    | false =>
      simp only at hx
      split at hx
      · rename_i hmi
        split at hx
        · rename_i es n h1 h2
          obtain ⟨u, hu, e⟩ := opt_bind_ret hx
          simp only [Prod.mk.injEq] at e
          obtain ⟨rfl, rfl⟩ := e
          unfold mapInt at hmi
          split at hmi
          · rename_i kt et hut
            split at hmi
            · rename_i k hk
              exact (lookup_res h hut hk (by rw [← h1]; exact hev x) (by rw [← h2]; exact hev i) hu).val
            · cases hmi
          · cases hmi
        · rename_i id q n h1 h2
          obtain ⟨u, hu, e⟩ := opt_bind_ret hx
          simp only [Prod.mk.injEq] at e
          obtain ⟨rfl, rfl⟩ := e
          exact (mapGet_res h (by rw [← h1]; exact hev x) (by rw [← h2]; exact hev i) hu).val
        · simp [D.opt] at hx
      · simp [D.opt] at hx
  | extract t i =>
    simp only [hop] at hx ⊢
    have hv := hev t
    split at hx
    · rename_i vs he
      obtain ⟨u, hu, hx⟩ := opt_ofOpt_bind hx
      simp only [D.opt, Option.some.injEq, Prod.mk.injEq] at hx
      obtain ⟨rfl, rfl⟩ := hx
      rw [he] at hv
      generalize a.eval t = tv at hv
      cases hv with
      | tup cs _ hs hj =>
        have hlt : i < cs.size := by rw [hs]; exact (List.getElem?_eq_some_iff.1 hu).1
        exact (VRes.pur h (v := cs[i]) (by simp [Instr.extract, hlt]) (hj i _ _ (by simp [hlt]) hu)).val
    · simp [D.opt] at hx
  | call c =>
    simp only [hop] at hx ⊢
    cases hcl : c.callee with
    | builtin b =>
      simp only [hcl] at hx
      have hrun : ∀ (s : Sem Value), (∀ cs, builtin b c.argTypes o.type cs (c.args.map a.eval) = (do pure (.value (← s)) : Sem Next)) →
          ((do let d ← resolve a.eval c o.type; invoke d.target d.args : Sem Next)).run C.P w = ((do pure (.value (← s)) : Sem Next)).run C.P w := by
        intro s hs
        simp only [resolve, hcl, Sem.run_bind, Sem.run_pure, Result.andThen_ok, invoke]
        rw [hs]
        simp only [Sem.run_bind, Sem.run_pure]
      cases b with
      | len =>
        simp only at hx
        split at hx
        · rename_i x t h1 h2
          split at hx
          · rename_i hok
            obtain ⟨u, hu, e⟩ := opt_bind_ret hx
            simp only [Prod.mk.injEq] at e
            obtain ⟨rfl, rfl⟩ := e
            rw [hrun _ (fun _ => rfl), args_one h1, arr_one h2]
            obtain ⟨l1, l2⟩ := lenOk_inv hok
            exact (len_res hE h (t := t) l1 (hev x) hu l2).val
          · simp [D.opt] at hx
        · simp [D.opt] at hx
      | append =>
        simp only at hx
        split at hx
        · rename_i s x t t' h1 h2
          split at hx
          · rename_i e hu
            split at hx
            · rename_i ett
              subst ett
              obtain ⟨T, hty, hx⟩ := opt_ofOpt_bind hx
              rw [hrun _ (fun _ => rfl), args_two h1, arr_two h2]
              exact (append_res hE hT h hu hty (hev s) (hev x) hx).val
            · simp [D.opt] at hx
          · simp [D.opt] at hx
        · simp [D.opt] at hx
      | copy =>
        simp only at hx
        split at hx
        · rename_i s x t t' h1 h2
          split at hx
          · rename_i e hu
            obtain ⟨T, hty, hx⟩ := opt_ofOpt_bind hx
            split at hx
            · rename_i hts
              rw [hrun _ (fun _ => rfl), args_two h1, arr_two h2]
              exact (copy_res hE hT h hu hty hts (hev s) (hev x) hx).val
            · simp [D.opt] at hx
          · simp [D.opt] at hx
        · simp [D.opt] at hx
      | min =>
        simp only at hx
        obtain ⟨u, hu, e⟩ := opt_bind_ret hx
        simp only [Prod.mk.injEq] at e
        obtain ⟨rfl, rfl⟩ := e
        obtain ⟨v0, rest, r, q1, q2, q3⟩ := minMax_res (C := C) (K := K) (w := w) (vs := (c.args.map a.eval).toList) (by simp) (fun j v x hv hx => by
          simp only [Array.toList_map, List.getElem?_map] at hv hx
          cases hj : c.args.toList[j]? with
          | none => rw [hj] at hv; simp at hv
          | some p0 => rw [hj] at hv hx; simp only [Option.map_some, Option.some.injEq] at hv hx; subst hv hx; exact hev _) hu
        rw [hrun _ (fun _ => rfl)]
        refine (VRes.pur h (v := r) ?_ q3).val
        simp only [Builtin.min_, q1]
        exact q2
      | max =>
        simp only at hx
        obtain ⟨u, hu, e⟩ := opt_bind_ret hx
        simp only [Prod.mk.injEq] at e
        obtain ⟨rfl, rfl⟩ := e
        obtain ⟨v0, rest, r, q1, q2, q3⟩ := minMax_res (C := C) (K := K) (w := w) (vs := (c.args.map a.eval).toList) (by simp) (fun j v x hv hx => by
          simp only [Array.toList_map, List.getElem?_map] at hv hx
          cases hj : c.args.toList[j]? with
          | none => rw [hj] at hv; simp at hv
          | some p0 => rw [hj] at hv hx; simp only [Option.map_some, Option.some.injEq] at hv hx; subst hv hx; exact hev _) hu
        rw [hrun _ (fun _ => rfl)]
        refine (VRes.pur h (v := r) ?_ q3).val
        simp only [Builtin.max_, q1]
        exact q2
      | _ => simp [D.opt] at hx
    | value f =>
      simp only [hcl] at hx
      split at hx
      · rename_i g first caps he
        have hv := hev f
        rw [he] at hv
        obtain ⟨f1, f2, e, s1, s2, r1, r2⟩ : ∃ f1 f2 : Array Value, a.eval f = .func (.func g) f1 f2 ∧ f1.size = first.length ∧ f2.size = caps.length ∧
            (∀ (j : Nat) (c : Value) (v : V S), f1[j]? = some c → first[j]? = some v → RepV C.E K w c v) ∧ (∀ (j : Nat) (c : Value) (v : V S), f2[j]? = some c → caps[j]? = some v → RepV C.E K w c v) := by
          generalize a.eval f = u at hv
          cases hv with
          | clo _ p q _ _ h1 h2 h3 h4 => exact ⟨p, q, rfl, h1, h2, h3, h4⟩
        have hargs : ∀ (j : Nat) (v : Value) (y : V S), (f1 ++ c.args.map a.eval ++ f2)[j]? = some v → (first ++ c.args.toList.map ev ++ caps)[j]? = some y → RepV C.E K w v y := by
          intro j v y hv hy
          by_cases q1 : j < f1.size
          · rw [Array.append_assoc, Array.getElem?_append_left q1] at hv
            rw [List.append_assoc, List.getElem?_append_left (by rw [← s1]; exact q1)] at hy
            exact r1 j v y hv hy
          · by_cases q2 : j < f1.size + c.args.size
            · rw [Array.append_assoc, Array.getElem?_append_right (by omega), Array.getElem?_append_left (by simp; omega)] at hv
              rw [List.append_assoc, List.getElem?_append_right (by rw [← s1]; omega), List.getElem?_append_left (by simp; omega)] at hy
              rw [← s1] at hy
              simp only [Array.getElem?_map, List.getElem?_map, Array.getElem?_toList] at hv hy
              cases hj : c.args[j - f1.size]? with
              | none => rw [hj] at hv; simp at hv
              | some p0 => rw [hj] at hv hy; simp only [Option.map_some, Option.some.injEq] at hv hy; subst hv hy; exact hev _
            · rw [Array.getElem?_append_right (by simp; omega)] at hv
              rw [List.getElem?_append_right (by simp; omega)] at hy
              simp only [Array.size_append, Array.size_map, List.length_append, List.length_map, Array.length_toList, ← s1] at hv hy
              exact r2 _ v y hv hy
        obtain ⟨hen, hcall⟩ := callFn_res hE hS hC h (vs := f1 ++ c.args.map a.eval ++ f2) (by simp [s1, s2]) hargs hx
        refine .inr ⟨g, f1 ++ c.args.map a.eval ++ f2, ?_, hcall⟩
        simp only [resolve, hcl, e, Deferred.ofValue, Sem.run_bind, Sem.run_pure, Result.andThen_ok, invoke]
        exact hen.run _ _
      · simp [D.opt] at hx
    | invoke r n =>
      simp only [hcl] at hx
      split at hx
      · rename_i t hr
        split at hx
        · rename_i f hf
          have e : a.eval r = .iface t (.agg #[]) := by
            have := hev r
            rw [hr] at this
            generalize a.eval r = u at this
            cases this; rfl
          have hargs : ∀ (j : Nat) (v : Value) (y : V S), (#[Value.agg #[]] ++ c.args.map a.eval)[j]? = some v → (V.agg [] :: c.args.toList.map ev)[j]? = some y → RepV C.E K w v y := by
            intro j v y hv hy
            cases j with
            | zero =>
              have h0 : (#[Value.agg #[]] ++ c.args.map a.eval)[0]? = some (Value.agg #[]) := by rw [Array.getElem?_append_left (by simp)]; rfl
              rw [h0] at hv
              cases hv
              cases hy
              exact .agg #[] [] rfl fun j c v hc => by simp at hc
            | succ j =>
              rw [Array.getElem?_append_right (by simp)] at hv
              simp only [List.size_toArray, List.length_singleton, Nat.add_sub_cancel, Array.getElem?_map, List.getElem?_cons_succ, List.getElem?_map, Array.getElem?_toList] at hv hy
              cases hj : c.args[j]? with
              | none => rw [hj] at hv; simp at hv
              | some p0 =>
                rw [hj] at hv hy
                simp only [Option.map_some, Option.some.injEq] at hv hy
                subst hv hy
                exact hev _
          obtain ⟨hen, hcall⟩ := callFn_res hE hS hC h (vs := #[Value.agg #[]] ++ c.args.map a.eval) (by rw [Array.size_append, Array.size_map, List.length_cons, List.length_map, Array.length_toList]; show 1 + _ = _; omega) hargs hx
          refine .inr ⟨f, #[Value.agg #[]] ++ c.args.map a.eval, ?_, hcall⟩
          simp only [resolve, hcl, e, Sem.run_bind, Sem.run_pure, Result.andThen_ok, invoke]
          have hx0 : (#[Value.iface t (.agg #[])] ++ c.args.map a.eval)[0]? = some (Value.iface t (.agg #[])) := by rw [Array.getElem?_append_left (by simp)]; rfl
          have hx1 : (#[Value.iface t (.agg #[])] ++ c.args.map a.eval).extract 1 (#[Value.iface t (.agg #[])] ++ c.args.map a.eval).size = c.args.map a.eval := by
            apply Array.ext'
            simp
            try exact List.take_of_length_le (by simp)
          simp only [hx0, hx1]
          rw [callMethod_ifc hf]
          exact hen.run _ _
        · simp [D.opt] at hx
      · simp [D.opt] at hx
  | makeMap t r =>
    simp only [hop] at hx ⊢
    cases r with
    | some r => simp [D.opt] at hx
    | none =>
      simp only at hx
      split at hx
      · rename_i k hk
        simp only [D.opt, Option.some.injEq, Prod.mk.injEq] at hx
        obtain ⟨rfl, rfl⟩ := hx
        exact (makeMap_res h hk).val
      · simp [D.opt] at hx
  | mapUpdate t x i v =>
    simp only [hop] at hx ⊢
    obtain ⟨rfl, K', w', q1, q2, q3, q4⟩ := mapPut_res h (hev x) (hev i) (hev v) hx
    exact .inl ⟨K', w', Go.undef, .inr ⟨by simp [q1], rfl⟩, q2, q3, q4, .undef _⟩
  | _ => simp [hop, D.opt] at hx
end
end Go.Lv
