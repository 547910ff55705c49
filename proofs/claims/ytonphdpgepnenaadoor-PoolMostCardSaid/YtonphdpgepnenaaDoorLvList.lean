import Derived.Test.YtonphdpgepnenaaDoorLvStore
import Derived.Laws.Slices
namespace Go.Lv
set_option linter.all false
open Go Go.RowKit
variable {S : Nat → Type}

/-- What is asked of the types' table. -/
def TyOK (C : Ctx S) : Prop := ∀ e T, C.ty e = some T → ∃ i z, C.P.info? e = some i ∧ i.size = tsize C.E T ∧ i.zero = some z ∧ z.cells.size = i.size ∧ 0 < i.size ∧ i.bytes ≤ 1024

section
variable {C : Ctx S} {K : Gh} {w : World} {B : Nat} {m : Mem S}

theorem TyOK.size (h : TyOK C) {e : TypeId} {T : Ty} (ht : C.ty e = some T) : sizeOf? C e = some (tsize C.E T) := by
  obtain ⟨i, z, h1, h2, _⟩ := h e T ht
  simp [sizeOf?, h1, h2]

theorem ieq_eq {a b : Int} (h : ieq a b = true) : a = b := by simpa [ieq] using h

/-- The bounds as they are run. -/
theorem bounds_run {lo hi mx : Option Value} {lo' hi' mx' : Option (V S)} {len cap : Nat} {f : Bool} {p : Int × Int × Option Int × Bool} (hcap : len ≤ cap)
    (h1 : ∀ x, lo' = some x → ∃ v, lo = some v ∧ RepV C.E K w v x) (h1' : lo' = none → lo = none)
    (h2 : ∀ x, hi' = some x → ∃ v, hi = some v ∧ RepV C.E K w v x) (h2' : hi' = none → hi = none)
    (h3 : ∀ x, mx' = some x → ∃ v, mx = some v ∧ RepV C.E K w v x) (h3' : mx' = none → mx = none)
    (hb : bounds len f lo' hi' mx' = some p) (hok : okBounds len p.1 p.2.1 p.2.2.1 = true) :
    0 ≤ p.1 ∧ p.1 ≤ p.2.1 ∧ p.2.1 ≤ len ∧ ∃ c : Nat, (Instr.sliceBounds true len cap lo hi mx).run C.P w = .ok (p.1.toNat, p.2.1.toNat, c) w ∧ p.2.1 ≤ c ∧ (p.2.2.2 = true → ((c : Int) = p.2.1 ∨ (f = true ∧ c = cap ∧ p.2.1 = len))) := by
  simp only [okBounds, Bool.and_eq_true, decide_eq_true_eq] at hok
  obtain ⟨⟨o1, o2, o3⟩, o4⟩ := hok
  refine ⟨o1, o2, o3, ?_⟩
  have mk : ∀ {k : IntKind} {n : Int} {y : Nat} {code : BoundsCode}, 0 ≤ n → n ≤ y → (Instr.sliceBound (.int k n) y code).run C.P w = .ok n.toNat w := by
    intro k n y code a b; exact run_sliceBound w k n y code a b
  unfold bounds at hb
  split at hb
  · cases hb
    rw [h1' rfl, h2' rfl, h3' rfl]
    exact ⟨cap, by simp [Instr.sliceBounds], by simp only at *; omega, fun q => .inr ⟨q, rfl, rfl⟩⟩
  · rename_i a _ _
    cases hb
    obtain ⟨v, e, r⟩ := h1 _ rfl
    rw [e, h2' rfl, h3' rfl, int_of r]
    simp only at o1 o2 o3
    exact ⟨cap, by simp [Instr.sliceBounds, mk o1 o2], by simp only; omega, fun q => .inr ⟨q, rfl, rfl⟩⟩
  · rename_i b _ _
    cases hb
    obtain ⟨v, e, r⟩ := h2 _ rfl
    rw [h1' rfl, e, h3' rfl, int_of r]
    simp only at o1 o2 o3
    exact ⟨cap, by simp [Instr.sliceBounds, mk o2 (by omega : _ ≤ (cap : Int))], by simp only; omega, fun q => by cases q⟩
  · rename_i _ _ _ a b
    cases hb
    obtain ⟨v, e, r⟩ := h1 _ rfl
    obtain ⟨v', e', r'⟩ := h2 _ rfl
    rw [e, e', h3' rfl, int_of r, int_of r']
    simp only at o1 o2 o3
    have hbn := mk (k := .i64) (y := cap) (code := .sliceAcap) (Int.le_trans o1 o2) (by omega)
    have han := mk (k := .i64) (n := a) (y := Int.toNat b) (code := .sliceB) o1 (by rw [Int.toNat_of_nonneg (Int.le_trans o1 o2)]; exact o2)
    exact ⟨cap, by simp [Instr.sliceBounds, hbn, han], by simp only; omega, fun q => by cases q⟩
  · rename_i _ _ _ b c
    cases hb
    obtain ⟨v, e, r⟩ := h2 _ rfl
    obtain ⟨v', e', r'⟩ := h3 _ rfl
    rw [h1' rfl, e, e', int_of r, int_of r']
    have e4 : b = c := ieq_eq o4
    subst e4
    simp only at o1 o2 o3
    have hcn := mk (k := .i64) (y := cap) (code := .slice3Acap) o2 (by omega)
    have hbn := mk (k := .i64) (n := b) (y := Int.toNat b) (code := .slice3B) o2 (by rw [Int.toNat_of_nonneg o2]; exact Int.le_refl _)
    exact ⟨Int.toNat b, by simp [Instr.sliceBounds, hbn, hcn], by rw [Int.toNat_of_nonneg o2]; exact Int.le_refl _, fun _ => .inl (Int.toNat_of_nonneg o2)⟩
  · rename_i _ _ _ a b c
    cases hb
    obtain ⟨v, e, r⟩ := h1 _ rfl
    obtain ⟨v', e', r'⟩ := h2 _ rfl
    obtain ⟨v'', e'', r''⟩ := h3 _ rfl
    rw [e, e', e'', int_of r, int_of r', int_of r'']
    have e4 : b = c := ieq_eq o4
    subst e4
    simp only at o1 o2 o3
    have h0 : @LE.le Int _ 0 b := Int.le_trans o1 o2
    have hcn := mk (k := .i64) (y := cap) (code := .slice3Acap) h0 (by omega)
    have hbn := mk (k := .i64) (n := b) (y := Int.toNat b) (code := .slice3B) h0 (by rw [Int.toNat_of_nonneg h0]; exact Int.le_refl _)
    have han := mk (k := .i64) (n := a) (y := Int.toNat b) (code := .slice3C) o1 (by rw [Int.toNat_of_nonneg h0]; exact o2)
    exact ⟨Int.toNat b, by simp [Instr.sliceBounds, hbn, hcn, han], by rw [Int.toNat_of_nonneg h0]; exact Int.le_refl _, fun _ => .inl (Int.toNat_of_nonneg h0)⟩
  · cases hb

/-- A piece of a list. -/
theorem piece_rep {σ : Nat → Nat} {t : Ty} {l : List (den S t)} {ad : Option Addr} {len cap : Nat} (h : Rep C.E σ w (.slice ad len cap) (.slice t) l) (a b c : Nat) (h1 : a ≤ b) (h2 : b ≤ l.length) (h3 : b ≤ c) :
    Rep C.E σ w (.slice (if c = a then ad else ad.map (·.add (a * tsize C.E t))) (b - a) (c - a)) (.slice t) ((l.take b).drop a) := by
  have hl : ((l.take b).drop a).length = b - a := by simp; omega
  by_cases hab : a = b
  · subst hab
    have : (l.take a).drop a = [] := List.eq_nil_of_length_eq_zero (by omega)
    rw [this, Nat.sub_self]
    exact .nil t _ _
  · have hlt : a < b := by omega
    rw [if_neg (by omega)]
    cases h with
    | nil => simp at h2; omega
    | slice _ _ bk off _ vs hcap hst hc hr =>
      simp only [Option.map_some, add_lit]
      rw [← hl]
      have hm : (b - a) * tsize C.E t + a * tsize C.E t ≤ l.length * tsize C.E t := by
        rw [← Nat.add_mul]; exact Nat.mul_le_mul_right _ (by omega)
      refine .slice t _ bk (off + a * tsize C.E t) (c - a) (fun j => vs (a * tsize C.E t + j)) (by omega) (by rw [hl]; omega) (fun j hj => ?_) (fun i x hi j cl hj => ?_)
      · rw [hl] at hj
        have := hc (a * tsize C.E t + j) (by omega)
        rwa [← Nat.add_assoc] at this
      · rw [List.getElem?_drop, List.getElem?_take] at hi
        split at hi
        · have := hr (a + i) x hi j cl hj
          rwa [Nat.add_mul, Nat.add_assoc] at this
        · cases hi

theorem rep_slice {σ : Nat → Nat} {v : Value} {t : Ty} {l : List (den S t)} (h : Rep C.E σ w v (.slice t) l) : ∃ ad cap, v = .slice ad l.length cap ∧ l.length ≤ cap := by
  cases h with
  | nil t a cap => exact ⟨a, cap, rfl, Nat.zero_le _⟩
  | slice _ _ b off cap vs hcap => exact ⟨_, cap, rfl, hcap⟩

theorem slice_res (hT : TyOK C) (h : RelM C K w B m) {st e : TypeId} {T : Ty} (hu : C.P.underlying st = some (.slice e)) (hty : C.ty e = some T) {v : Value} {x : V S} {lo hi mx : Option Value} {lo' hi' mx' : Option (V S)} {y : V S} {m' : Mem S}
    (hv : RepV C.E K w v x) (hx : (semSl m T x lo' hi' mx').opt = some (y, m'))
    (h1 : ∀ x, lo' = some x → ∃ v, lo = some v ∧ RepV C.E K w v x) (h1' : lo' = none → lo = none)
    (h2 : ∀ x, hi' = some x → ∃ v, hi = some v ∧ RepV C.E K w v x) (h2' : hi' = none → hi = none)
    (h3 : ∀ x, mx' = some x → ∃ v, mx = some v ∧ RepV C.E K w v x) (h3' : mx' = none → mx = none) :
    VRes C K w B ((Instr.sliceAt st v lo hi mx).run C.P w) y m' := by
  have key : ∀ {K' : Gh} {l : List (den S T)} {f : Bool} {ad : Option Addr} {len cap : Nat}, Rep C.E K'.σ w (.slice ad len cap) (.slice T) l → len = l.length → l.length ≤ cap → (f = true → cap = l.length) →
      (semSlice T l f lo' hi' mx').opt = some y → ∃ u, (Instr.sliceAt st (.slice ad len cap) lo hi mx).run C.P w = .ok u w ∧ RepV C.E K' w u y := by
    intro K' l f ad len cap hr hlen hcap hf hy
    subst hlen
    unfold semSlice at hy
    obtain ⟨p, hp, hy⟩ := opt_ofOpt_bind hy
    simp only [D.opt] at hy
    by_cases hok : okBounds (l.length : Int) p.1 p.2.1 p.2.2.1 = true
    · rw [hok] at hy
      simp only [cond_true, Option.some.injEq] at hy
      obtain ⟨b1, b2, b3, c, b4, b5, b6⟩ := bounds_run (C := C) (K := K) (w := w) (cap := cap) hcap h1 h1' h2 h2' h3 h3' hp hok
      have hpc := piece_rep hr p.1.toNat p.2.1.toNat c (by omega) (by omega) (by omega)
      have hrun : (Instr.sliceAt st (.slice ad l.length cap) lo hi mx).run C.P w = .ok (.slice (if c = p.1.toNat then ad else ad.map (·.add (p.1.toNat * tsize C.E T))) (p.2.1.toNat - p.1.toNat) (c - p.1.toNat)) w := by
        simp [Instr.sliceAt, run_underlying hu, Instr.slice, b4, run_sizeOf (hT.size hty)]
      refine ⟨_, hrun, ?_⟩
      by_cases hfull : p.2.2.2 = true
      · rw [if_pos hfull] at hy
        subst hy
        have hlen : ((l.take p.2.1.toNat).drop p.1.toNat).length = p.2.1.toNat - p.1.toNat := by simp; omega
        have hc : c - p.1.toNat = p.2.1.toNat - p.1.toNat := by
          rcases b6 hfull with q | ⟨q1, q2, q3⟩
          · omega
          · have := hf q1; omega
        rw [hc, ← hlen] at hpc ⊢
        exact .full hpc
      · rw [if_neg hfull] at hy
        subst hy
        exact .cell hpc
    · simp only [Bool.not_eq_true] at hok
      rw [hok] at hy
      simp at hy
  unfold semSl at hx
  split at hx
  · rename_i t l
    split at hx
    · rename_i et
      subst et
      obtain ⟨u, hu', e⟩ := opt_bind_ret hx
      cases e
      cases hv with
      | cell hr =>
        obtain ⟨ad, cap, rfl, hcap⟩ := rep_slice hr
        obtain ⟨r, q1, q2⟩ := key hr rfl hcap (fun q => by cases q) hu'
        exact VRes.pur h q1 q2
    · simp [D.opt] at hx
  · rename_i t l
    split at hx
    · rename_i et
      subst et
      obtain ⟨u, hu', e⟩ := opt_bind_ret hx
      cases e
      cases hv with
      | full hr =>
        obtain ⟨r, q1, q2⟩ := key hr rfl (Nat.le_refl _) (fun _ => rfl) hu'
        exact VRes.pur h q1 q2
    · simp [D.opt] at hx
  · rename_i id g
    split at hx
    · rename_i e' t l g' fz hm
      split at hx
      · rename_i hgt
        obtain ⟨hg, et⟩ := hgt
        subst hg et
        obtain ⟨u, hu', e⟩ := opt_bind_ret hx
        cases e
        obtain ⟨K1, x1, s1, r1, f1⟩ := freeze h [id]
        have hr : Rep C.E K1.σ w v (.slice t) l := by
          have hm1 : decLeaf (mark m [id]) (.slice t) (.own id g) = some l := by
            rw [decLeaf_like (mark_like m [id])]
            simp [decLeaf, hm]; rfl
          exact decLeaf_rep r1 (hv.mono x1) hm1 (fun id' g' q => by cases q; exact f1)
        obtain ⟨ad, cap, rfl, hcap⟩ := rep_slice hr
        obtain ⟨r, q1, q2⟩ := key hr rfl hcap (fun q => by cases q) hu'
        exact ⟨K1, w, r, q1, x1, Below.refl B w, r1, q2⟩
      · simp [D.opt] at hx
    · simp [D.opt] at hx
  · simp [D.opt] at hx

theorem geti_some {α : Type} {l : List α} {i : Int} {x : α} (h : geti l i = some x) : 0 ≤ i ∧ i < l.length ∧ l[i.toNat]? = some x := by
  unfold geti at h
  split at h
  · rename_i h0
    have := (List.getElem?_eq_some_iff.1 h).1
    exact ⟨h0, by omega, h⟩
  · cases h

theorem elem_ro {σ : Nat → Nat} (hσ : σ = K.σ) (hE : EnvOK C.E) {v : Value} {T : Ty} {l : List (den S T)} {i : Nat} {x : den S T} (h : Rep C.E σ w v (.slice T) l) (hi : l[i]? = some x) :
    ∃ b off cap, v = .slice (some ⟨b, off, none⟩) l.length cap ∧ RepV C.E K w (.pointer (some ⟨b, off + i * tsize C.E T, none⟩)) (.ro (elemCells C.E T x)) := by
  subst hσ
  cases h with
  | nil => simp at hi
  | slice _ _ b off cap vs hcap hst hc hr =>
    have hil := (List.getElem?_eq_some_iff.1 hi).1
    have hlen : (elemCells C.E T x).length = tsize C.E T := by rw [elemCells_eq, List.length_map, cellsOf_len hE]
    have hm : i * tsize C.E T + tsize C.E T ≤ l.length * tsize C.E T := by rw [← Nat.succ_mul]; exact Nat.mul_le_mul_right _ hil
    refine ⟨b, off, cap, rfl, .ro b _ _ (fun j => vs (i * tsize C.E T + j)) (by rw [hlen]; omega) (fun j hj => ?_) (fun j u hu => ?_)⟩
    · rw [hlen] at hj
      have := hc (i * tsize C.E T + j) (by omega)
      rwa [← Nat.add_assoc] at this
    · rw [elemCells_eq, List.getElem?_map] at hu
      cases hcl : (cellsOf C.E T x)[j]? with
      | none => rw [hcl] at hu; simp at hu
      | some cl =>
        rw [hcl] at hu
        simp only [Option.map_some, Option.some.injEq] at hu
        subst hu
        exact .cell (hr i x hi j cl hcl)

theorem run_indexAt {st e : TypeId} {sz : Nat} (hu : C.P.underlying st = some (.slice e)) (hs : sizeOf? C e = some sz) (b off len cap : Nat) (i : Int) (k : IntKind) (h0 : 0 ≤ i) (h1 : i < len) :
    (Instr.indexAt st (.slice (some ⟨b, off, none⟩) len cap) (.int k i)).run C.P w = .ok (.pointer (some ⟨b, off + i.toNat * sz, none⟩)) w := by
  simp [Instr.indexAt, run_underlying hu, asIntOf, h0, h1, run_sizeOf hs, add_lit]

theorem elemAt_res (hE : EnvOK C.E) (hT : TyOK C) (h : RelM C K w B m) {st e : TypeId} {T : Ty} (hu : C.P.underlying st = some (.slice e)) (hty : C.ty e = some T) {v : Value} {x y : V S} {i : Int} {m' : Mem S}
    (hv : RepV C.E K w v x) (hx : (elemAt C m T x i).opt = some (y, m')) : m' = m ∧ VRes C K w B ((Instr.indexAt st v (.int .i64 i)).run C.P w) y m := by
  have hs := hT.size hty
  unfold elemAt at hx
  split at hx
  · rename_i t l
    split at hx
    · rename_i et
      subst et
      simp only [D.opt] at hx
      cases hgi : geti l i with
      | none => rw [hgi] at hx; simp at hx
      | some z =>
        rw [hgi] at hx
        simp only [Option.bind_some, D.opt, Option.some.injEq, Prod.mk.injEq] at hx
        obtain ⟨rfl, rfl⟩ := hx
        obtain ⟨h0, h1, h2⟩ := geti_some hgi
        cases hv with
        | cell hr =>
          obtain ⟨b, off, cap, rfl, q⟩ := elem_ro rfl hE hr h2
          exact ⟨rfl, VRes.pur h (run_indexAt hu hs b off _ cap i .i64 h0 h1) q⟩
    · simp [D.opt] at hx
  · rename_i t l
    split at hx
    · rename_i et
      subst et
      simp only [D.opt] at hx
      cases hgi : geti l i with
      | none => rw [hgi] at hx; simp at hx
      | some z =>
        rw [hgi] at hx
        simp only [Option.bind_some, D.opt, Option.some.injEq, Prod.mk.injEq] at hx
        obtain ⟨rfl, rfl⟩ := hx
        obtain ⟨h0, h1, h2⟩ := geti_some hgi
        cases hv with
        | full hr =>
          obtain ⟨b, off, cap, e, q⟩ := elem_ro rfl hE hr h2
          simp only [Value.slice.injEq] at e
          obtain ⟨rfl, _, rfl⟩ := e
          exact ⟨rfl, VRes.pur h (run_indexAt hu hs b off _ _ i .i64 h0 h1) q⟩
    · simp [D.opt] at hx
  · rename_i id g
    split at hx
    · rename_i e' t l g' fz hm
      split at hx
      · rename_i et
        subst et
        split at hx
        · rename_i eg
          subst eg
          simp only [D.opt] at hx
          by_cases hin : 0 ≤ i ∧ i < (l.length : Int)
          · simp only [hin, and_self, decide_true, cond_true, Option.some.injEq, Prod.mk.injEq] at hx
            obtain ⟨rfl, rfl⟩ := hx
            have hlt : i.toNat < l.length := by omega
            obtain ⟨q1, q2, q3, c, cap, q4, q5, q6, q7, q8, q9, q10, q11, q12⟩ := arr_cells hE h hm (List.getElem?_eq_getElem hlt)
            cases hv with
            | own _ _ _ hn hg hp hh =>
              rw [hh q1, q4]
              refine ⟨rfl, VRes.pur h (run_indexAt hu hs (K.ι id) 0 _ cap i .i64 hin.1 hin.2) (.eptr id g _ 0 _ hn hg ⟨_, rfl⟩ fun _ => by rw [q2]; simp)⟩
          · simp [hin] at hx
        · simp [D.opt] at hx
      · simp [D.opt] at hx
    · simp [D.opt] at hx
  · simp [D.opt] at hx
end
end Go.Lv
