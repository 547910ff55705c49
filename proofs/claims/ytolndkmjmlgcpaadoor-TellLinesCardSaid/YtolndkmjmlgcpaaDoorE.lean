import Derived.Test.YtolndkmjmlgcpaaDoorD
import Derived.Shelf.Strings.Split
import Derived.Shelf.Strings.Cut
import Derived.Shelf.Strings.OnBuilder
import Derived.Shelf.Strconv.Itoa3
import Derived.Shelf.Strconv.AtoiAll
import Derived.Lib.IndexBytes
import Derived.Lib.LaidTab
import Derived.Shelf.SlicesE.Clone
import Derived.Shelf.Spec.SlicesGrow
namespace Go.Lv
set_option linter.all false
open Go Go.RowKit Go.Proofs Go.Shelf
variable {S : Nat → Type}
def lvEntersB (P : Program) (f : FuncId) : Bool := match P.funcs[f]? with
  | some fn => !fn.body.isNone && !(fn.name == "runtime.NumGoroutine")
  | none => false
theorem lvEnters {P : Program} {f : FuncId} (h : lvEntersB P f = true) : Enters P f := by
  unfold lvEntersB at h
  split at h
  · rename_i fn hfn
    simp only [Bool.and_eq_true, Bool.not_eq_true'] at h
    exact ⟨fn, hfn, h.1, h.2⟩
  · cases h
/-- What the library's functions of strings give, as lists of bytes; none where their contracts ask more. -/
def strconv_Itoa (n : Int) : Option (List UInt8) := if -9223372036854775808 ≤ n ∧ n ≤ 9223372036854775807 then some (Lib.itoa n) else none
def strings_Join (l : List (List UInt8)) (sep : List UInt8) : Option (List UInt8) := if l.length ≤ 140737488355328 ∧ (Lib.join l sep).length ≤ 140737488355328 then some (Lib.join l sep) else none
def strings_Split (s sep : List UInt8) : Option (List (List UInt8)) := if s.length < 4294967281 ∧ sep.length = 1 then some (Lib.split s sep) else none
def strconv_Atoi (s : List UInt8) : Option (Int × Bool) := if s.length ≤ 281474976710656 then (match Lib.atoiAll s with
  | .ok v => some (v, false)
  | .range => some (Lib.atoiSat s, true)
  | _ => some (0, true)) else none
def intCells (k : IntKind) : List Int → List (V S)
  | [] => []
  | z :: r => .cell (.int k) z :: intCells k r
theorem intCells_len (k : IntKind) : ∀ zs : List Int, (intCells (S := S) k zs).length = zs.length
  | [] => rfl
  | z :: r => by simp [intCells, intCells_len k r]
theorem intCells_get (k : IntKind) : ∀ (zs : List Int) (i : Nat) (h : i < zs.length), (intCells (S := S) k zs)[i]? = some (.cell (.int k) zs[i])
  | z :: r, 0, _ => rfl
  | z :: r, i + 1, h => by
    simp only [intCells, List.getElem?_cons_succ, List.getElem_cons_succ]
    exact intCells_get k r i (by simpa using h)
theorem szB (s : List UInt8) : (⟨s.toArray⟩ : ByteArray).size = s.length := by simp [ByteArray.size]
section
variable {C : Ctx S} {σ : Nat → Nat} {w : World}
theorem glob_ints {g : Nat} {k : IntKind} {zs : List Int} (h : GlobOK C σ w) (hG : C.G g = some (intCells k zs)) : ∃ t f, w.heap[g]? = some (.cells (zs.map (Value.int k)).toArray t f) := by
  obtain ⟨h1, h2, c, t, f, h3, h4⟩ := h g _ hG
  rw [intCells_len] at h4
  refine ⟨t, f, ?_⟩
  have : c = (zs.map (Value.int k)).toArray := by
    apply Array.ext
    · rw [h4]; simp
    · intro i i1 i2
      have hz : i < zs.length := by simpa using i2
      generalize hp : Value.pointer (some ⟨g, 0, none⟩) = p at h1
      cases h1 with
      | ro b off vs fn hst hc hr =>
        cases hp
        have e1 := hc i (by rw [intCells_len]; exact hz)
        rw [Nat.zero_add] at e1
        have e2 := hr i _ (intCells_get k zs i hz)
        have e3 : w.cell? ⟨g, i, none⟩ = some c[i] := by simp [World.cell?, h3, i1]
        rw [e3] at e1
        have e4 := int_of e2
        have e5 : c[i] = fn i := Option.some.inj e1
        rw [e5, e4]
        simp
  rw [← this]; exact h3
theorem glob_err {g : Nat} (h : GlobOK C σ w) (hG : C.G g = some [V.cell .err true]) : ∃ te pe, w.cell? ⟨g, 0, none⟩ = some (.iface te pe) := by
  obtain ⟨h1, _⟩ := h g _ hG
  generalize hp : Value.pointer (some ⟨g, 0, none⟩) = p at h1
  cases h1 with
  | ro b off vs fn hst hc hr =>
    cases hp
    have e1 := hc 0 (by simp)
    have e2 := hr 0 (V.cell .err true) rfl
    rw [Nat.zero_add] at e1
    have e3 := cell_inv e2
    generalize fn 0 = u at e1 e3
    cases e3 with
    | err t v => exact ⟨t, v, e1⟩
theorem arg_int {vs : Array Value} {cs : List (Cell S)} {k : IntKind} {n : Int} (h : RepArgs C.E σ w vs cs) {j : Nat} (hj : cs[j]? = some ⟨.int k, n⟩) : vs[j]? = some (.int k n) := by
  obtain ⟨h1, h2⟩ := h
  have hlt : j < vs.size := by rw [h1]; exact (List.getElem?_eq_some_iff.1 hj).1
  have := h2 j vs[j] _ (by simp [hlt]) hj
  rw [Array.getElem?_eq_getElem hlt]
  exact congrArg some (int_of this)
theorem arg_str {vs : Array Value} {cs : List (Cell S)} {l : List UInt8} (h : RepArgs C.E σ w vs cs) {j : Nat} (hj : cs[j]? = some ⟨.str, l⟩) : vs[j]? = some (.string ⟨l.toArray⟩) := by
  obtain ⟨h1, h2⟩ := h
  have hlt : j < vs.size := by rw [h1]; exact (List.getElem?_eq_some_iff.1 hj).1
  have := h2 j vs[j] _ (by simp [hlt]) hj
  rw [Array.getElem?_eq_getElem hlt]
  exact congrArg some (str_of this)
theorem arr1 {vs : Array Value} {a : Value} (h : vs.size = 1) (h0 : vs[0]? = some a) : vs = #[a] := by
  apply Array.ext
  · simpa using h
  · intro i h1 h2
    have : i = 0 := by simpa using h2
    subst this
    have := (Array.getElem?_eq_some_iff.1 h0).2
    simpa using this
theorem arr2 {vs : Array Value} {a b : Value} (h : vs.size = 2) (h0 : vs[0]? = some a) (h1 : vs[1]? = some b) : vs = #[a, b] := by
  apply Array.ext
  · simpa using h
  · intro i i1 i2
    have e0 := (Array.getElem?_eq_some_iff.1 h0).2
    have e1 := (Array.getElem?_eq_some_iff.1 h1).2
    match i, i1, i2 with
    | 0, _, _ => simpa using e0
    | 1, _, _ => simpa using e1
/-- A result that holds no memory. -/
theorem ret_leaf {w' : World} {v : Value} {x : V S} (hnew : ∀ b, w.heap.size ≤ b → σ b = 0) (hb : Below w.heap.size w w') (h : RepV C.E (gh0 σ) w' v x) :
    ∃ u σ', Ending.returned v = Ending.returned u ∧ Below w.heap.size w w' ∧ (∀ b, b < w.heap.size → σ' b = σ b) ∧ (∀ b, w'.heap.size ≤ b → σ' b = 0) ∧ RepV C.E (gh0 σ') w' u x :=
  ⟨v, σ, rfl, hb, fun _ _ => rfl, fun b q => hnew b (Nat.le_trans hb.size q), h⟩
theorem below_growN (q : Nat) (os : Array Obj) : Below w.heap.size w (Go.Sort.grow (w.drewN q) os) :=
  ⟨rfl, rfl, rfl, by simp [Go.Sort.grow, World.drewN], fun i hi => by
    show ((w.drewN q).heap ++ os)[i]? = _
    rw [Array.getElem?_append_left (by show i < w.heap.size; omega)]
    rfl⟩
theorem tup2 {K : Gh} {w' : World} {a b : Value} {x y : V S} (h1 : RepV C.E K w' a x) (h2 : RepV C.E K w' b y) : RepV C.E K w' (.tuple #[a, b]) (.tup [x, y]) :=
  .tup _ _ rfl fun j c v hc hv => by
    match j, hc, hv with
    | 0, hc, hv => simp at hc hv; subst hc hv; exact h1
    | 1, hc, hv => simp at hc hv; subst hc hv; exact h2
    | j + 2, hc, hv => simp at hv
end
def spItoa : Spec S := { args := [.int .i64], R := List UInt8, run := run1 (.int .i64) strconv_Itoa, enc := enc1 .str }
theorem ok_Itoa {C : Ctx S} {ρ : Ren} (L : LaysM.n171 C.P ρ) (he : Enters C.P (ρ.f 171)) {g : Nat} (hg : C.P.globalNamed "internal/strconv.uint64pow10" = some g) (hG : C.G g = some (intCells .u64 Lib.pow10Tab)) : SpecOK C (ρ.f 171) spItoa := by
  refine ⟨he, fun σ w vs cs r hglob hnew hargs hrun => ?_⟩
  obtain ⟨n, rfl, h⟩ := inv1 hrun
  unfold strconv_Itoa at h
  split at h
  · rename_i hb
    cases h
    obtain ⟨t, f, hh⟩ := glob_ints hglob hG
    have hv := arr1 hargs.1 (arg_int hargs rfl)
    subst hv
    refine (Any.strconv_Itoa L n hb.1 hb.2 w (by unfold Lib.TabIs; simp [World.var?, hg, hh])).mono ?_
    rintro e w' ⟨rfl, k, os, rfl⟩
    exact ret_leaf hnew (below_growN k os) (.cell (.str _))
  · cases h
def spAtoi : Spec S := { args := [.str], R := Int × Bool, run := run1 .str strconv_Atoi, enc := enc2 (.int .i64) .err }
theorem ok_Atoi {C : Ctx S} {ρ : Ren} (L : LaysC.n172 C.P ρ) (he : Enters C.P (ρ.f 172)) (h15 : C.G (ρ.g 15) = some [V.cell .err true]) (h16 : C.G (ρ.g 16) = some [V.cell .err true]) : SpecOK C (ρ.f 172) spAtoi := by
  refine ⟨he, fun σ w vs cs r hglob hnew hargs hrun => ?_⟩
  obtain ⟨s, rfl, h⟩ := inv1 hrun
  have hv := arr1 hargs.1 (arg_str hargs rfl)
  subst hv
  unfold strconv_Atoi at h
  split at h
  · rename_i hb
    have hsz := szB s
    cases ha : Lib.atoiAll s with
    | ok v =>
      rw [ha] at h
      cases h
      refine (Any.strconv_Atoi_ok L ⟨s.toArray⟩ (by rw [hsz]; omega) v ha w).mono ?_
      rintro e w' ⟨rfl, hw⟩
      have hbl : Below w.heap.size w w' := by
        rcases hw with rfl | ⟨t, rfl⟩
        · exact Below.refl _ _
        · exact Lib.bytesWorld_below _ _ _
      exact ret_leaf hnew hbl (tup2 (.cell (.int _ _)) (.cell .errNil))
    | range =>
      rw [ha] at h
      cases h
      obtain ⟨te, pe, hc⟩ := glob_err hglob h16
      refine (Any.strconv_Atoi_range L ⟨s.toArray⟩ (by rw [hsz]; exact hb) ha _ w hc (.inr ⟨te, pe, rfl⟩)).mono ?_
      rintro e w' ⟨N, rfl, _, _, hbl⟩
      exact ret_leaf hnew hbl (tup2 (.cell (.int _ _)) (.cell (.err _ _)))
    | _ =>
      rw [ha] at h
      cases h
      obtain ⟨te, pe, hc⟩ := glob_err hglob h15
      refine (Any.strconv_Atoi_syntax L ⟨s.toArray⟩ (by rw [hsz]; exact hb) ha _ w hc (.inr ⟨te, pe, rfl⟩)).mono ?_
      rintro e w' ⟨N, rfl, _, _, hbl⟩
      exact ret_leaf hnew hbl (tup2 (.cell (.int _ _)) (.cell (.err _ _)))
  · cases h
theorem Split_one {P : Program} {ρ : Ren} (L : Lays.n146 P ρ) (hi9 : (P.info? (ρ.t 9)).map (fun i => (i.zero, i.size, i.bytes)) = some (some (.string ByteArray.empty), 1, 16)) (s : ByteArray) (c : UInt8) (w : World) (hs : s.size < 4294967281) :
    Calls P (ρ.f 146) #[.string s, .string ⟨#[c]⟩] w fun e w' =>
      e = .returned (.slice (some ⟨w.heap.size, 0, none⟩) (Lib.countB s ⟨#[c]⟩ + 1) (Lib.countB s ⟨#[c]⟩ + 1)) ∧ w' = w.alloc (.cells ((Lib.splitB ⟨#[c]⟩ 0 (Lib.countB s ⟨#[c]⟩) s).map Value.string).toArray (ρ.t 9)) := by
  have h1 : 1 ≤ (⟨#[c]⟩ : ByteArray).size := Nat.le_refl _
  have hle := Lib.countB_le ⟨#[c]⟩ h1 s.size s (Nat.le_refl _)
  have hlen := Lib.splitB_all ⟨#[c]⟩ h1 0 _ s rfl
  have hI : ∀ (x : ByteArray) (w : World), Calls P (ρ.f 143) #[.string x, .string ⟨#[c]⟩] w fun e w' => e = .returned (.int .i64 (Lib.indexB x ⟨#[c]⟩)) ∧ w' = w := fun x w => by
    have := Any.strings_Index_one { L with } x c w
    rwa [← Lib.index_one] at this
  have hC : Calls P (ρ.f 138) #[.string s, .string ⟨#[c]⟩] w fun e w' => e = .returned (.int .i64 (Lib.countB s ⟨#[c]⟩)) ∧ w' = w := by
    refine (Any.strings_Count_one { L with } s c w).mono fun e w' ⟨he, hw⟩ => ⟨?_, hw⟩
    rw [he]
    show _ = Ending.returned (Value.int .i64 ((Lib.count s.data.toList [c] : Nat) : Int))
    rw [Lib.count_one]
    rfl
  have k := Any.strings_genSplit_core { L with } hi9 s ⟨#[c]⟩ 0 (-1) (Lib.countB s ⟨#[c]⟩ + 1) w hs h1 (Nat.zero_le _) (fun x cs hx => hI x _) hC (by decide) (by decide) (by rw [if_pos (by decide)]; omega)
  rw [Nat.add_sub_cancel, hlen] at k
  have e2 : Lib.cellsOf (Lib.splitB ⟨#[c]⟩ 0 (Lib.countB s ⟨#[c]⟩) s) (Lib.countB s ⟨#[c]⟩ + 1) = ((Lib.splitB ⟨#[c]⟩ 0 (Lib.countB s ⟨#[c]⟩) s).map Value.string).toArray := by rw [← hlen]; exact Lib.cellsOf_full _
  rw [e2] at k
  have t3 := L.t3; have t9 := L.t9; have t31 := L.t31
  have a3 := L.a3; have a9 := L.a9; have a31 := L.a31
  have z3 := L.z3; have v3 := L.v3; have z9 := L.z9; have v9 := L.v9; have z31 := L.z31; have v31 := L.v31
  have e221 : ∀ args w, (callFunc (ρ.f 221) args).run P w = .ok (.enter (ρ.f 221) args) w := enters_of L.f221 (by kernel_rfl) rfl
  go_enter L.f146, Body.n146_ntmps ρ
  go_wp2_with (go_at_fn (ρ.f 221); refine k.mono ?_; rintro e w' ⟨rfl, hw⟩; rw [hw])
  go_ret
  exact ⟨rfl, rfl⟩
theorem Split_list {P : Program} {ρ : Ren} (L : Lays.n146 P ρ) (hi9 : (P.info? (ρ.t 9)).map (fun i => (i.zero, i.size, i.bytes)) = some (some (.string ByteArray.empty), 1, 16)) (s : List UInt8) (c : UInt8) (w : World) (hs : s.length < 4294967281) :
    Calls P (ρ.f 146) #[.string ⟨s.toArray⟩, .string ⟨[c].toArray⟩] w fun e w' => ∃ cap cs, e = .returned (.slice (some ⟨w.heap.size, 0, none⟩) (Lib.split s [c]).length cap) ∧ (Lib.split s [c]).length ≤ cap ∧ w' = w.alloc (.cells cs (ρ.t 9)) ∧ ∀ (i : Nat) (x : List UInt8), (Lib.split s [c])[i]? = some x → cs[i]? = some (.string ⟨x.toArray⟩) := by
  refine (Split_one L hi9 ⟨s.toArray⟩ c w (by rw [szB]; exact hs)).mono ?_
  rintro e w' ⟨rfl, rfl⟩
  have hd := Lib.splitB_data ⟨#[c]⟩ 0 (Lib.countB ⟨s.toArray⟩ ⟨#[c]⟩) ⟨s.toArray⟩
  have hlen := Lib.splitB_all ⟨#[c]⟩ (Nat.le_refl 1) 0 _ (⟨s.toArray⟩ : ByteArray) rfl
  have hd' : (Lib.splitB ⟨#[c]⟩ 0 (Lib.countB ⟨s.toArray⟩ ⟨#[c]⟩) ⟨s.toArray⟩).map (·.data.toList) = Lib.split s [c] := hd
  generalize Lib.splitB ⟨#[c]⟩ 0 (Lib.countB ⟨s.toArray⟩ ⟨#[c]⟩) ⟨s.toArray⟩ = bs at hd' hlen ⊢
  generalize Lib.countB ⟨s.toArray⟩ ⟨#[c]⟩ = n at hlen ⊢
  have hl2 : (Lib.split s [c]).length = n + 1 := by rw [← hd', List.length_map, hlen]
  refine ⟨n + 1, _, by rw [hl2], by omega, rfl, fun i x hi => ?_⟩
  rw [← hd', List.getElem?_map] at hi
  cases hb2 : bs[i]? with
  | none => rw [hb2] at hi; cases hi
  | some b =>
    rw [hb2] at hi
    cases hi
    simp [hb2]
theorem rep_strs {E : Env S} {σ : Nat → Nat} {w : World} (l : List (List UInt8)) (b off cap : Nat) (hcap : l.length ≤ cap) (hst : off + l.length ≤ σ b) (hc : ∀ (i : Nat) (x : List UInt8), l[i]? = some x → w.cell? ⟨b, off + i, none⟩ = some (.string ⟨x.toArray⟩)) :
    Rep E σ w (.slice (some ⟨b, off, none⟩) l.length cap) (.slice .str) l := by
  refine Rep.slice (S := S) .str l b off cap (fun j => .string ⟨(l.getD j []).toArray⟩) hcap (by show off + l.length * 1 ≤ σ b; omega) (fun j hj => ?_) (fun i x hi j cl hj => ?_)
  · have hj' : j < l.length := by have h3 : j < l.length * 1 := hj; omega
    rw [hc j l[j] (by simp [hj'])]
    simp [List.getD, hj']
  · have hj2 : ([⟨.str, x⟩] : List (Cell S))[j]? = some cl := hj
    cases j with
    | succ j => simp at hj2
    | zero =>
      simp only [List.getElem?_cons_zero, Option.some.injEq] at hj2
      subst hj2
      show Rep E σ w (.string ⟨(l.getD (i * 1 + 0) []).toArray⟩) .str x
      have hi2 : l[i]? = some (x : List UInt8) := hi
      have : l.getD (i * 1 + 0) [] = x := by
        rw [Nat.mul_one, Nat.add_zero, List.getD, hi2]; rfl
      rw [this]
      exact .str x
theorem strs_rep {E : Env S} {σ : Nat → Nat} {w : World} {v : Value} {l : List (List UInt8)} (h : Rep E σ w v (.slice .str) l) : (∃ a cap, v = .slice a 0 cap ∧ l = []) ∨
    ∃ b off cap, v = .slice (some ⟨b, off, none⟩) l.length cap ∧ l.length ≤ cap ∧ ∀ (i : Nat) (x : List UInt8), l[i]? = some x → w.cell? ⟨b, off + i, none⟩ = some (.string ⟨x.toArray⟩) := by
  cases h with
  | nil _ a cap => exact .inl ⟨a, cap, rfl, rfl⟩
  | slice _ _ b off cap f hcap hst hc hr =>
    refine .inr ⟨b, off, cap, rfl, hcap, fun i x hi => ?_⟩
    have hil : i < l.length := (List.getElem?_eq_some_iff.1 hi).1
    have e1 := hc i (by show i < l.length * 1; omega)
    have e2 := hr i x hi 0 ⟨.str, x⟩ rfl
    have e3 : Rep E σ w (f (i * 1 + 0)) .str x := e2
    rw [Nat.mul_one, Nat.add_zero] at e3
    rw [e1]
    exact congrArg some e3.str_inv
theorem Join_list {P : Program} {ρ : Ren} (L : Lays.n156 P ρ) (X : Builder.Extra P ρ) (l : List (List UInt8)) (sep : List UInt8) (w : World) (b off cap : Nat) (hcap : l.length ≤ cap) (hc : ∀ (i : Nat) (x : List UInt8), l[i]? = some x → w.cell? ⟨b, off + i, none⟩ = some (.string ⟨x.toArray⟩))
    (h1 : l.length ≤ 140737488355328) (h2 : (Lib.join l sep).length ≤ 140737488355328) :
    Calls P (ρ.f 156) #[.slice (some ⟨b, off, none⟩) l.length cap, .string ⟨sep.toArray⟩] w fun e w' => e = .returned (.string ⟨(Lib.join l sep).toArray⟩) ∧ Below w.heap.size w w' := by
  by_cases hl : l.length = 0
  · have : l = [] := List.eq_nil_of_length_eq_zero hl
    subst this
    exact (Any.strings_Join_none L X _ cap ⟨sep.toArray⟩ w).mono fun e w' ⟨he, hw⟩ => ⟨he, hw ▸ Below.refl _ _⟩
  · have hbk : b < w.heap.size := by
      have := hc 0 _ (List.getElem?_eq_getElem (Nat.pos_of_ne_zero hl))
      exact World.block_lt_of_cell? _ _ this
    let xs : List ByteArray := l.map (fun s => (⟨s.toArray⟩ : ByteArray))
    have hxl : xs.length = l.length := List.length_map ..
    have hxd : xs.map (·.data.toList) = l := by
      simp only [xs, List.map_map]
      exact List.map_id' l
    have k := Any.strings_Join L X b off cap xs ⟨sep.toArray⟩ w (fun j x hj => by
      simp only [xs, List.getElem?_map] at hj
      cases hlj : l[j]? with
      | none => rw [hlj] at hj; cases hj
      | some y => rw [hlj] at hj; cases hj; exact hc j y hlj) hbk (by rw [hxl]; exact h1) (by rw [hxl]; exact hcap) (by rw [hxd]; exact h2)
    rw [hxl, hxd] at k
    exact k
def spSplit : Spec S := { args := [.str, .str], R := List (List UInt8), run := run2 .str .str strings_Split, enc := enc1 (.slice .str) }
theorem ok_Split {C : Ctx S} {ρ : Ren} (L : Lays.n146 C.P ρ) (he : Enters C.P (ρ.f 146)) (hi9 : (C.P.info? (ρ.t 9)).map (fun i => (i.zero, i.size, i.bytes)) = some (some (.string ByteArray.empty), 1, 16)) : SpecOK C (ρ.f 146) spSplit := by
  refine ⟨he, fun σ w vs cs r hglob hnew hargs hrun => ?_⟩
  obtain ⟨s, sep, rfl, h⟩ := inv2 hrun
  have hv := arr2 hargs.1 (arg_str hargs rfl) (arg_str hargs rfl)
  subst hv
  unfold strings_Split at h
  split at h
  · rename_i hb
    cases h
    have hc : ∃ c, sep = [c] := List.length_eq_one_iff.1 hb.2
    obtain ⟨c, rfl⟩ := hc
    refine (Split_list L hi9 s c w hb.1).mono ?_
    rintro e w' ⟨cap, cs, rfl, hcap, rfl, hcs⟩
    refine ⟨_, fun b => if b = w.heap.size then (Lib.split s [c]).length else σ b, rfl, (Below.refl _ w).alloc (Nat.le_refl _) _, fun b hb => by simp only; rw [if_neg (by omega)], fun b hb => ?_, ?_⟩
    · simp only [World.size_alloc] at hb
      simp only; rw [if_neg (by omega)]; exact hnew b (by omega)
    · exact .cell (rep_strs (Lib.split s [c]) w.heap.size 0 cap hcap (by show 0 + (Lib.split s [c]).length ≤ (if w.heap.size = w.heap.size then (Lib.split s [c]).length else σ w.heap.size); rw [if_pos rfl]; omega) fun i x hi => by
        rw [Nat.zero_add, World.cell?_alloc_new]; exact hcs i x hi)
  · cases h
def spJoin : Spec S := { args := [.slice .str, .str], R := List UInt8, run := run2 (.slice .str) .str strings_Join, enc := enc1 .str }
theorem ok_Join {C : Ctx S} {ρ : Ren} (L : Lays.n156 C.P ρ) (X : Builder.Extra C.P ρ) (he : Enters C.P (ρ.f 156)) : SpecOK C (ρ.f 156) spJoin := by
  refine ⟨he, fun σ w vs cs r hglob hnew hargs hrun => ?_⟩
  obtain ⟨l, sep, rfl, h⟩ := inv2 hrun
  have h0 : 0 < vs.size := by rw [hargs.1]; exact Nat.zero_lt_succ _
  have hr1 : Rep C.E σ w vs[0] (.slice .str) l := cell_inv (hargs.2 0 vs[0] _ (by simp [h0]) rfl)
  have hv := arr2 hargs.1 (Array.getElem?_eq_getElem h0) (arg_str hargs rfl)
  generalize vs[0] = v0 at hv hr1
  subst hv
  unfold strings_Join at h
  split at h
  · rename_i hb
    cases h
    rcases strs_rep hr1 with ⟨a, cap, rfl, rfl⟩ | ⟨b, off, cap, rfl, hcap, hc⟩
    · refine (Any.strings_Join_none L X a cap ⟨List.toArray sep⟩ w).mono ?_
      rintro e w' ⟨rfl, rfl⟩
      exact ret_leaf hnew (Below.refl _ _) (.cell (.str _))
    · refine (Join_list L X l sep w b off cap hcap hc hb.1 hb.2).mono ?_
      rintro e w' ⟨rfl, hbl⟩
      exact ret_leaf hnew hbl (.cell (.str _))
  · cases h
end Go.Lv
namespace Go.Lv
set_option linter.all false
open Go Go.RowKit
variable {S : Nat → Type}
theorem laidVars_mem {P : Program} {W : World} : ∀ {l : List (String × DataW Unit)} {ps : List MemPlace}, DataW.LaidVars P W l ps → ∀ n d, (n, d) ∈ l → ∃ g t cs fuel p, P.globalNamed n = some g ∧ (P.globals[g]?).map (·.type) = some t ∧ W.var? P n = some cs ∧
    DataW.trod (fun _ => ()) P W 0 (fun _ => true) false fuel t cs.toList = some (d, p)
  | [], _, _, n, d, h => by cases h
  | (n0, d0) :: r, ps, ⟨g, t, cs, fuel, p, q, h1, h2, h3, h4, h5, _⟩, n, d, h => by
    rcases List.mem_cons.1 h with e | h
    · cases e; exact ⟨g, t, cs, fuel, p, h1, h2, h3, h4⟩
    · exact laidVars_mem h5 n d h
theorem var_heap {P : Program} {W : World} {n : String} {g : Nat} {cs : Array Value} (hg : P.globalNamed n = some g) (h : W.var? P n = some cs) : ∃ t f, W.heap[g]? = some (.cells cs t f) := by
  unfold World.var? at h
  rw [hg] at h
  simp only [Option.bind_some] at h
  split at h
  · rename_i c t f hh; cases h; exact ⟨t, f, hh⟩
  · cases h
def GlobAt (E : Env S) (W : World) (g : Nat) (vs : List (V S)) : Prop :=
  RepV E (gh0 (sig W)) W (.pointer (some ⟨g, 0, none⟩)) (.ro vs) ∧ 0 < sig W g ∧ ∃ c t f, W.heap[g]? = some (.cells c t f) ∧ c.size = vs.length
theorem globAt_of {E : Env S} {W : World} {g : Nat} {vs : List (V S)} {c : Array Value} {t : TypeId} {f : Nat × Nat} (hh : W.heap[g]? = some (.cells c t f)) (hs : c.size = vs.length) (h0 : 0 < vs.length)
    (hr : ∀ (j : Nat) (v : Value) (x : V S), c[j]? = some v → vs[j]? = some x → RepV E (gh0 (sig W)) W v x) : GlobAt E W g vs := by
  have hsig : sig W g = c.size := by unfold sig; rw [hh]
  refine ⟨.ro g 0 vs (fun j => c.getD j Go.undef) (by show 0 + vs.length ≤ sig W g; omega) (fun j hj => ?_) (fun j x hx => ?_), by omega, c, t, f, hh, hs⟩
  · have hjc : j < c.size := by omega
    rw [Nat.zero_add]
    simp [World.cell?, hh, Array.getD, hjc]
  · have hjc : j < c.size := by rw [hs]; exact (List.getElem?_eq_some_iff.1 hx).1
    have : c.getD j Go.undef = c[j] := by simp [Array.getD, hjc]
    simp only [this]
    exact hr j c[j] x (by simp [hjc]) hx
theorem globAt_ints {E : Env S} {P : Program} {W : World} {l : List (String × DataW Unit)} {n : String} {k : IntKind} {zs : List Int} {g : Nat} {t e : TypeId} {m : Nat} (h : laidMet P l W) (hm : (n, Lib.tabData k zs) ∈ l) (hg : P.globalNamed n = some g)
    (hty : (P.globals[g]?).map (·.type) = some t) (ht : P.underlying t = some (.array m e)) (he : P.underlying e = some (.int k)) (hce : P.cellsOf e = 1) (hct : P.cellsOf t = m) (h0 : 0 < zs.length) : GlobAt E W g (intCells k zs) := by
  obtain ⟨ps, hv, _⟩ := h
  obtain ⟨g', t', cs, fuel, p, k1, k2, k3, k4⟩ := laidVars_mem hv _ _ hm
  obtain rfl := Option.some.inj (hg.symm.trans k1)
  obtain rfl := Option.some.inj (hty.symm.trans k2)
  have hcs := Lib.cells_of_tab ht he hce hct k4
  obtain ⟨t1, f1, hh⟩ := var_heap hg k3
  have hsz : cs.size = zs.length := by rw [← Array.length_toList, hcs, List.length_map]
  refine globAt_of hh (by rw [hsz, intCells_len]) (by rw [intCells_len]; exact h0) fun j v x q1 q2 => ?_
  have hj : j < zs.length := by rw [← hsz]; exact (Array.getElem?_eq_some_iff.1 q1).1
  rw [intCells_get k zs j hj] at q2
  cases q2
  have q3 : cs.toList[j]? = some v := by rw [Array.getElem?_toList]; exact q1
  rw [hcs, List.getElem?_map, List.getElem?_eq_getElem hj] at q3
  cases q3
  exact .cell (.int k _)
def ifaceB (P : Program) (t : TypeId) : Bool := match P.underlying t with
  | some (.interface _) => true
  | _ => false
theorem ifaceB_inv {P : Program} {t : TypeId} (h : ifaceB P t = true) : ∃ ms, P.underlying t = some (.interface ms) := by
  unfold ifaceB at h
  split at h
  · rename_i ms e; exact ⟨ms, e⟩
  · cases h
theorem globAt_err {E : Env S} {P : Program} {W : World} {l : List (String × DataW Unit)} {n nm : String} {d : DataW Unit} {g : Nat} {t : TypeId} (h : laidMet P l W) (hm : (n, DataW.iface nm d) ∈ l) (hg : P.globalNamed n = some g)
    (hty : (P.globals[g]?).map (·.type) = some t) (ht : ifaceB P t = true) : GlobAt E W g [V.cell .err true] := by
  obtain ⟨ms, ht⟩ := ifaceB_inv ht
  obtain ⟨ps, hv, _⟩ := h
  obtain ⟨g', t', cs, fuel, p, k1, k2, k3, k4⟩ := laidVars_mem hv _ _ hm
  obtain rfl := Option.some.inj (hg.symm.trans k1)
  obtain rfl := Option.some.inj (hty.symm.trans k2)
  have hcs : ∃ u v, cs.toList = [.iface u v] := by
    have := iface_of_trod ht k4
    obtain ⟨_, u, v, q⟩ := this
    exact ⟨u, v, q.1⟩
  obtain ⟨u, v, hcs⟩ := hcs
  obtain ⟨t1, f1, hh⟩ := var_heap hg k3
  have hsz : cs.size = 1 := by rw [← Array.length_toList, hcs]; rfl
  refine globAt_of hh (by rw [hsz]; rfl) (by simp) fun j v' x q1 q2 => ?_
  cases j with
  | succ j => simp at q2
  | zero =>
    cases q2
    have q3 : cs.toList[0]? = some v' := by rw [Array.getElem?_toList]; exact q1
    rw [hcs] at q3
    cases q3
    exact .cell (.err u v)
end Go.Lv
namespace Go.Lv
set_option linter.all false
open Go Go.RowKit
variable {S : Nat → Type}
end Go.Lv
namespace Go.Lv
set_option linter.all false
open Go Go.RowKit Go.Proofs Go.Shelf Go.Lib
variable {S : Nat → Type}
end Go.Lv
namespace Go.Lv
set_option linter.all false
open Go Go.RowKit
variable {S : Nat → Type}
/-! Contracts of functions that take closures, or capture boxes: the boxes are held, and don't turn from then on. -/
inductive Pat where
  | t (T : Ty)
  | clo (g : FuncId) (ids : List Nat)
  | ptr (k : Nat)
inductive Bx where
  | t (T : Ty)
  | clo (g : FuncId) (ids : List Nat)
structure CSpec (S : Nat → Type) where
  pats : List Pat
  boxes : List Bx
  R : Type
  run : List (Cell S) → List (Cell S) → Option R
  enc : R → List (Cell S)
/-- The callee's own view. -/
def ptrs (ids : List Nat) : List (V S) := ids.map fun k => .ptr k 0
def patV (E : Env S) : List Pat → List (Cell S) → List (V S)
  | [], _ => []
  | .t _ :: ps, c :: cs => encV E c.t c.x :: patV E ps cs
  | .t _ :: ps, [] => .undef :: patV E ps []
  | .clo g ids :: ps, cs => .clo g [] (ptrs ids) :: patV E ps cs
  | .ptr k :: ps, cs => .ptr k 0 :: patV E ps cs
def boxM (E : Env S) : List Bx → List (Cell S) → Mem S
  | [], _ => []
  | .t _ :: ps, c :: cs => .box (encV E c.t c.x).cells true :: boxM E ps cs
  | .t _ :: ps, [] => .box [] true :: boxM E ps []
  | .clo g ids :: ps, cs => .box [.clo g [] (ptrs ids)] true :: boxM E ps cs
theorem patV_len (E : Env S) : ∀ (ps : List Pat) (cs : List (Cell S)), (patV E ps cs).length = ps.length
  | [], _ => rfl
  | .t _ :: ps, _ :: cs => by simp only [patV, List.length_cons, patV_len E ps cs]
  | .t _ :: ps, [] => by simp only [patV, List.length_cons, patV_len E ps []]
  | .clo _ _ :: ps, cs => by simp only [patV, List.length_cons, patV_len E ps cs]
  | .ptr _ :: ps, cs => by simp only [patV, List.length_cons, patV_len E ps cs]
def ghB (n : Nat) (bl : Nat → Nat) (σ : Nat → Nat) : Gh := { n := n, ι := bl, hv := fun _ => .nilIface, gen := fun _ => 0, esz := fun _ => 0, live := fun _ => true, σ := σ, σ0 := some (σ, fun _ => undef) }
def CSpecOK (C : Ctx S) (f : FuncId) (sp : CSpec S) : Prop := Enters C.P f ∧
  ∀ (σ : Nat → Nat) (w : World) (vs : Array Value) (bl : Nat → Nat) (asn bs : List (Cell S)) (r : sp.R), RelM C (ghB sp.boxes.length bl σ) w w.heap.size (boxM C.E sp.boxes bs) → vs.size = sp.pats.length →
    (∀ (j : Nat) (v : Value) (y : V S), vs[j]? = some v → (patV C.E sp.pats asn)[j]? = some y → RepV C.E (ghB sp.boxes.length bl σ) w v y) → sp.run asn bs = some r →
    Calls C.P f vs w fun e w' => ∃ v σ', e = .returned v ∧ Below w.heap.size w w' ∧ (∀ b, b < w.heap.size → σ' b = σ b) ∧ (∀ b, w'.heap.size ≤ b → σ' b = 0) ∧ RepV C.E (gh0 σ') w' v (encAll C.E (sp.enc r))
/-! The caller's view. -/
def matchP (ρ : List Nat) : List Nat → List (V S) → Bool
  | [], [] => true
  | k :: ks, .ptr id off :: vs => (match ρ[k]? with | some i => Nat.beq i id | none => false) && (Nat.beq off 0 && matchP ρ ks vs)
  | _, _ => false
def zipI : List Nat → List (V S) → List (Nat × Nat)
  | k :: ks, .ptr id _ :: vs => (k, id) :: zipI ks vs
  | _, _ => []
def pairsOf : List Pat → List (V S) → List (Nat × Nat)
  | .ptr k :: ps, .ptr id _ :: vs => (k, id) :: pairsOf ps vs
  | .clo _ ids :: ps, .clo _ _ caps :: vs => zipI ids caps ++ pairsOf ps vs
  | _ :: ps, _ :: vs => pairsOf ps vs
  | _, _ => []
def lookN : List (Nat × Nat) → Nat → Nat
  | [], _ => 0
  | p :: r, k => bif Nat.beq p.1 k then p.2 else lookN r k
def rhoF (n : Nat) (l : List (Nat × Nat)) : Nat → List Nat
  | 0 => []
  | m + 1 => lookN l (n - (m + 1)) :: rhoF n l m
def nodupB : List Nat → Bool
  | [] => true
  | x :: r => !(inL r x) && nodupB r
def patsOK (ρ : List Nat) : List Pat → List (V S) → Bool
  | [], [] => true
  | .t _ :: ps, _ :: vs => patsOK ρ ps vs
  | .clo g ids :: ps, .clo g' [] caps :: vs => Nat.beq g g' && (matchP ρ ids caps && patsOK ρ ps vs)
  | .ptr k :: ps, v :: vs => matchP ρ [k] [v] && patsOK ρ ps vs
  | _, _ => false
def ownsP : List Pat → List (V S) → List Nat
  | .t _ :: ps, v :: vs => v.owns ++ ownsP ps vs
  | _ :: ps, _ :: vs => ownsP ps vs
  | _, _ => []
def decP (E : Env S) (m : Mem S) : List Pat → List (V S) → Option (List (Cell S))
  | [], _ => some []
  | .t T :: ps, v :: vs => (dec E m T v).bind fun x => (decP E m ps vs).bind fun r => some (⟨T, x⟩ :: r)
  | _ :: ps, _ :: vs => decP E m ps vs
  | _, _ => none
/-- What a box holds, as one value. -/
def boxV (E : Env S) (T : Ty) (cs : List (V S)) : Option (V S) := if cs.length = tsize E T then (bif isStT T then some (.agg cs) else cs[0]?) else none
def decB (E : Env S) (m : Mem S) (ρ : List Nat) : List Bx → List Nat → Option (List (Cell S))
  | [], [] => some []
  | .t T :: ps, id :: ids => match m[id]? with
    | some (.box cs _) => (boxV E T cs).bind fun v => if v.owns = [] then (dec E m T v).bind fun x => (decB E m ρ ps ids).bind fun r => some (⟨T, x⟩ :: r) else none
    | _ => none
  | .clo g ks :: ps, id :: ids => match m[id]? with
    | some (.box [.clo g' [] caps] _) => if Nat.beq g g' && matchP ρ ks caps then decB E m ρ ps ids else none
    | _ => none
  | _, _ => none
def semCC (C : Ctx S) (m : Mem S) (sp : CSpec S) (args : List (V S)) : D (V S × Mem S) :=
  let ρ := rhoF sp.boxes.length (pairsOf sp.pats args) sp.boxes.length
  if (nodupB ρ && patsOK ρ sp.pats args) = true then
    (D.ofOpt (decP C.E m sp.pats args)).bind fun asn => (D.ofOpt (decB C.E m ρ sp.boxes ρ)).bind fun bs => .call (sp.run asn bs) fun r => .ret (encAll C.E (sp.enc r), frzB (mark m (ownsP sp.pats args)) ρ)
  else .fail
def cspL : List (Nat × CSpec S) → Nat → Option (CSpec S)
  | [], _ => none
  | p :: r, g => bif Nat.beq p.1 g then some p.2 else cspL r g
def ccCl (C : Ctx S) (l : List (Nat × CSpec S)) (base : Cl S) : Cl S := fun f args m => match cspL l f with
  | some sp => semCC C m sp args
  | none => base f args m
section
variable {C : Ctx S} {K : Gh} {w : World} {B : Nat} {m : Mem S}
variable {G : Gh} {ρ : List Nat}
theorem matchP_rep (hptr : ∀ k id v, ρ[k]? = some id → RepV C.E K w v (.ptr id 0) → RepV C.E G w v (.ptr k 0)) : ∀ (ks : List Nat) (caps : List (V S)) (vals : List Value), matchP ρ ks caps = true → vals.length = caps.length →
    (∀ (j : Nat) (v : Value) (y : V S), vals[j]? = some v → caps[j]? = some y → RepV C.E K w v y) → vals.length = (ptrs (S := S) ks).length ∧ ∀ (j : Nat) (v : Value) (y : V S), vals[j]? = some v → (ptrs ks)[j]? = some y → RepV C.E G w v y
  | [], [], vals, _, hl, _ => ⟨hl, fun j v y _ q => by simp [ptrs] at q⟩
  | k :: ks, [], vals, h, _, _ => by simp [matchP] at h
  | [], _ :: _, vals, h, _, _ => by simp [matchP] at h
  | k :: ks, c :: caps, vals, h, hl, hr => by
    cases vals with
    | nil => simp at hl
    | cons v0 vals =>
      cases c <;> simp only [matchP, Bool.false_eq_true] at h
      rename_i id off
      simp only [Bool.and_eq_true] at h
      obtain ⟨h1, h2, h3⟩ := h
      obtain ⟨i1, i2⟩ := matchP_rep hptr ks caps vals h3 (by simpa using hl) (fun j v y p q => hr (j + 1) v y (by simpa using p) (by simpa using q))
      have hoff := Nat.eq_of_beq_eq_true h2
      subst hoff
      have hk : ρ[k]? = some id := by
        split at h1
        · rename_i i hi; rw [hi, Nat.eq_of_beq_eq_true h1]
        · cases h1
      refine ⟨by simp only [List.length_cons, i1, ptrs, List.map_cons], fun j v y p q => ?_⟩
      cases j with
      | zero =>
        simp only [List.getElem?_cons_zero, Option.some.injEq, ptrs, List.map_cons] at p q
        subst p q
        exact hptr k id _ hk (hr 0 _ _ rfl rfl)
      | succ j => exact i2 j v y (by simpa using p) (by simpa [ptrs] using q)
theorem patP_rep (hE : EnvOK C.E) (h : RelM C K w B m) (hup : ∀ v (T : Ty) (y : den S T), RepV C.E (gh0 K.σ) w v (encV C.E T y) → RepV C.E G w v (encV C.E T y)) (hptr : ∀ k id v, ρ[k]? = some id → RepV C.E K w v (.ptr id 0) → RepV C.E G w v (.ptr k 0)) :
    ∀ (ps : List Pat) (args : List (V S)) (asn : List (Cell S)) (vs : List Value), vs.length = args.length → (∀ (j : Nat) (v : Value) (y : V S), vs[j]? = some v → args[j]? = some y → RepV C.E K w v y) → Frz C.E K m (ownsP ps args) → patsOK ρ ps args = true → decP C.E m ps args = some asn →
    vs.length = ps.length ∧ ∀ (j : Nat) (v : Value) (y : V S), vs[j]? = some v → (patV C.E ps asn)[j]? = some y → RepV C.E G w v y
  | [], [], asn, vs, hl, _, _, _, _ => ⟨hl, fun j v y _ q => by simp [patV] at q⟩
  | [], _ :: _, asn, vs, hl, _, _, ho, _ => by simp [patsOK] at ho
  | p :: ps, [], asn, vs, hl, _, _, ho, _ => by cases p <;> simp [patsOK] at ho
  | p :: ps, x :: args, asn, vs, hl, hr, hf, ho, hd => by
    cases vs with
    | nil => simp at hl
    | cons v0 vs =>
      have hr' : ∀ (j : Nat) (v : Value) (y : V S), vs[j]? = some v → args[j]? = some y → RepV C.E K w v y := fun j v y p q => hr (j + 1) v y (by simpa using p) (by simpa using q)
      have hl' : vs.length = args.length := by simpa using hl
      cases p with
      | t T =>
        simp only [decP] at hd
        obtain ⟨y, h1, hd⟩ := bsome hd
        obtain ⟨r, h2, hd⟩ := bsome hd
        cases hd
        have ho' : patsOK ρ ps args = true := by cases x <;> exact ho
        obtain ⟨i1, i2⟩ := patP_rep hE h hup hptr ps args r vs hl' hr' (fun id hid => hf id (by simp only [ownsP, List.mem_append]; exact .inr hid)) ho' h2
        refine ⟨by simp [i1], fun j v z p q => ?_⟩
        cases j with
        | zero =>
          simp only [List.getElem?_cons_zero, Option.some.injEq, patV] at p q
          subst p q
          exact hup _ _ _ (enc_gh0 (dec_rep hE h (hr 0 _ x rfl rfl) h1 fun id hid => hf id (by simp only [ownsP, List.mem_append]; exact .inl hid)))
        | succ j => exact i2 j v z (by simpa using p) (by simpa [patV] using q)
      | clo g ids =>
        cases x <;> try (simp [patsOK] at ho; done)
        rename_i g' first caps
        cases first with
        | cons _ _ => exact absurd ho (by simp [patsOK])
        | nil =>
          simp only [patsOK, Bool.and_eq_true] at ho
          obtain ⟨o1, o2, o3⟩ := ho
          simp only [decP] at hd
          obtain ⟨i1, i2⟩ := patP_rep hE h hup hptr ps args asn vs hl' hr' (fun id hid => hf id (by simpa only [ownsP] using hid)) o3 hd
          have hg := Nat.eq_of_beq_eq_true o1
          subst hg
          refine ⟨by simp [i1], fun j v z p q => ?_⟩
          cases j with
          | zero =>
            simp only [List.getElem?_cons_zero, Option.some.injEq, patV] at p q
            subst p q
            have h0 := hr 0 _ _ rfl rfl
            cases h0 with
            | clo _ fs cs _ _ e1 e2 hf' hc' =>
              obtain ⟨m1, m2⟩ := matchP_rep hptr ids caps cs.toList o2 (by simpa using e2) (fun j v y p q => hc' j v y (by simpa using p) q)
              exact .clo g fs cs [] (ptrs ids) e1 (by simpa using m1) (fun j c v _ q => by simp at q) fun j c v p q => m2 j c v (by simpa using p) q
          | succ j => exact i2 j v z (by simpa using p) (by simpa [patV] using q)
      | ptr k =>
        have ho' : matchP ρ [k] [x] = true ∧ patsOK ρ ps args = true := by
          cases x <;> simpa only [patsOK, Bool.and_eq_true] using ho
        have hd' : decP C.E m ps args = some asn := by cases x <;> exact hd
        have hf' : Frz C.E K m (ownsP ps args) := fun id hid => hf id (by cases x <;> exact hid)
        obtain ⟨i1, i2⟩ := patP_rep hE h hup hptr ps args asn vs hl' hr' hf' ho'.2 hd'
        refine ⟨by simp [i1], fun j v z p q => ?_⟩
        cases j with
        | zero =>
          simp only [List.getElem?_cons_zero, Option.some.injEq, patV] at p q
          subst p q
          obtain ⟨m1, m2⟩ := matchP_rep hptr [k] [x] [v0] ho'.1 rfl (fun j v y p q => by
            cases j with
            | zero => simp only [List.getElem?_cons_zero, Option.some.injEq] at p q; subst p q; exact hr 0 _ _ rfl rfl
            | succ j => simp at p)
          exact m2 0 _ _ rfl rfl
        | succ j => exact i2 j v z (by simpa using p) (by simpa [patV] using q)
/-- What a box of the callee's is. -/
def BoxB (C : Ctx S) (K G : Gh) (w : World) (m : Mem S) (id : Nat) (o : Ob S) : Prop := ∃ ys cs fz c e, o = .box ys true ∧ m[id]? = some (.box cs fz) ∧ w.heap[K.ι id]? = some (.cells c e (0, 0)) ∧ c.size = ys.length ∧
  ∀ (j : Nat) (v : Value) (y : V S), c[j]? = some v → ys[j]? = some y → RepV C.E G w v y
theorem boxV_rep (hE : EnvOK C.E) (h : RelM C K w B m) {id : Nat} {cs : List (V S)} {fz : Bool} (hm : m[id]? = some (.box cs fz)) {T : Ty} {v : V S} (hv : boxV C.E T cs = some v) (hv2 : v.owns = []) {x : den S T} (hx : dec C.E m T v = some x)
    (hup : ∀ v (T : Ty) (y : den S T), RepV C.E (gh0 K.σ) w v (encV C.E T y) → RepV C.E G w v (encV C.E T y)) : BoxB C K G w m id (.box (encV C.E T x).cells true) := by
  obtain ⟨hg, hl, c, e, p1, p2, p3, p4, p5⟩ := h.ob id _ hm
  have hcl : (encV C.E T x).cells.length = tsize C.E T := by rw [encV_cells, elemCells_eq, List.length_map, cellsOf_len hE]
  have hfr : Frz C.E K m v.owns := fun id hid => by rw [hv2] at hid; cases hid
  have hdd : (encV C.E T x).defd = true := by cases T <;> rfl
  unfold boxV at hv
  split at hv
  · rename_i hlen
    refine ⟨_, cs, fz, c, e, rfl, hm, p1, by rw [hcl, p2, hlen], ?_⟩
    cases hst : isStT T with
    | true =>
      rw [hst] at hv
      simp only [cond_true, Option.some.injEq] at hv
      subst hv
      have r0 : RepV C.E K w (.agg c) (.agg cs) := .agg c cs p2 p3
      have r1 := hup _ _ _ (enc_gh0 (dec_rep hE h r0 hx hfr))
      exact (r1.cells hdd).2
    | false =>
      rw [hst] at hv
      simp only [cond_false] at hv
      have h1 : tsize C.E T = 1 := by cases T <;> first | rfl | exact absurd hst (by simp [isStT])
      have hc1 : 0 < c.size := by omega
      have hv0 : v.one = true := by
        have : ∀ t : Ty, (∃ y, decLeaf m t v = some y) → v.one = true := by
          rintro t ⟨y, hy⟩
          cases v <;> first | rfl | (simp [decLeaf] at hy)
        refine this T ?_
        cases T <;> first | exact ⟨_, hx⟩ | exact absurd hst (by simp [isStT])
      have r0 := p3 0 c[0] v (by simp [hc1]) hv
      have r1 := hup _ _ _ (enc_gh0 (dec_rep hE h r0 hx hfr))
      intro j u y hu hy
      have hj : j = 0 := by
        have := (List.getElem?_eq_some_iff.1 hy).1
        rw [hcl] at this; omega
      subst hj
      have hu0 : u = c[0] := by simpa [hc1] using hu.symm
      refine (r1.cells hdd).2 0 u y ?_ hy
      rw [oneCells (r0.oneCell hv0), hu0]; rfl
  · cases hv
theorem decB_ok (hE : EnvOK C.E) (h : RelM C K w B m) (hup : ∀ v (T : Ty) (y : den S T), RepV C.E (gh0 K.σ) w v (encV C.E T y) → RepV C.E G w v (encV C.E T y)) (hptr : ∀ k id v, ρ[k]? = some id → RepV C.E K w v (.ptr id 0) → RepV C.E G w v (.ptr k 0)) :
    ∀ (bx : List Bx) (ids : List Nat) (bs : List (Cell S)), decB C.E m ρ bx ids = some bs → ids.length = bx.length ∧ (boxM C.E bx bs).length = bx.length ∧ ∀ (j : Nat) (o : Ob S) (id : Nat), (boxM C.E bx bs)[j]? = some o → ids[j]? = some id → BoxB C K G w m id o
  | [], [], bs, hd => ⟨rfl, rfl, fun j o id q => by simp [boxM] at q⟩
  | [], _ :: _, bs, hd => by simp [decB] at hd
  | b :: bx, [], bs, hd => by cases b <;> simp [decB] at hd
  | b :: bx, id :: ids, bs, hd => by
    cases b with
    | t T =>
      simp only [decB] at hd
      split at hd
      · rename_i cs fz hm
        obtain ⟨v, hv, hd⟩ := bsome hd
        split at hd
        · rename_i hv2
          obtain ⟨x, hx, hd⟩ := bsome hd
          obtain ⟨r, hr, hd⟩ := bsome hd
          cases hd
          obtain ⟨i1, i2, i3⟩ := decB_ok hE h hup hptr bx ids r hr
          refine ⟨by simp [i1], by simp [boxM, i2], fun j o id' p q => ?_⟩
          cases j with
          | zero =>
            simp only [boxM, List.getElem?_cons_zero, Option.some.injEq] at p q
            subst p q
            exact boxV_rep hE h hm hv hv2 hx hup
          | succ j => exact i3 j o id' (by simpa [boxM] using p) (by simpa using q)
        · cases hd
      · cases hd
    | clo g ks =>
      simp only [decB] at hd
      split at hd
      · rename_i g' caps fz hm
        split at hd
        · rename_i hc
          simp only [Bool.and_eq_true] at hc
          obtain ⟨c1, c2⟩ := hc
          have hg := Nat.eq_of_beq_eq_true c1
          subst hg
          obtain ⟨i1, i2, i3⟩ := decB_ok hE h hup hptr bx ids bs hd
          refine ⟨by simp [i1], by simp [boxM, i2], fun j o id' p q => ?_⟩
          cases j with
          | zero =>
            simp only [boxM, List.getElem?_cons_zero, Option.some.injEq] at p q
            subst p q
            obtain ⟨hgg, hl, c, e, p1, p2, p3, p4, p5⟩ := h.ob id _ hm
            refine ⟨_, _, fz, c, e, rfl, hm, p1, by simpa using p2, fun j v y hv hy => ?_⟩
            cases j with
            | succ j => simp at hy
            | zero =>
              simp only [List.getElem?_cons_zero, Option.some.injEq] at hy
              subst hy
              have r0 := p3 0 v _ hv rfl
              cases r0 with
              | clo _ fs vs _ _ e1 e2 hf' hc' =>
                obtain ⟨m1, m2⟩ := matchP_rep hptr ks caps vs.toList c2 (by simpa using e2) (fun j v y p q => hc' j v y (by simpa using p) q)
                exact .clo g fs vs [] (ptrs ks) e1 (by simpa using m1) (fun j c v _ q => by simp at q) fun j c v p q => m2 j c v (by simpa using p) q
          | succ j => exact i3 j o id' (by simpa [boxM] using p) (by simpa using q)
        · cases hd
      · cases hd
theorem inL_iff : ∀ {l : List Nat} {x : Nat}, inL l x = true ↔ x ∈ l
  | [], x => by simp [inL]
  | y :: r, x => by
    rw [List.mem_cons, ← inL_iff (l := r)]
    show (x.beq y || inL r x) = true ↔ _
    rw [Bool.or_eq_true]
    exact ⟨fun h => h.imp Nat.eq_of_beq_eq_true id, fun h => h.imp (fun e => by rw [e]; exact Nat.beq_refl y) id⟩
theorem nodupB_inj : ∀ {l : List Nat}, nodupB l = true → ∀ (i j x : Nat), l[i]? = some x → l[j]? = some x → i = j
  | [], _, i, j, x, h1, _ => by simp at h1
  | y :: r, h, i, j, x, h1, h2 => by
    simp only [nodupB, Bool.and_eq_true, Bool.not_eq_true'] at h
    obtain ⟨h0, h⟩ := h
    have hn : y ∉ r := fun q => by rw [inL_iff.2 q] at h0; cases h0
    cases i with
    | zero =>
      cases j with
      | zero => rfl
      | succ j =>
        simp only [List.getElem?_cons_zero, Option.some.injEq, List.getElem?_cons_succ] at h1 h2
        subst h1
        exact absurd (List.mem_of_getElem? h2) hn
    | succ i =>
      cases j with
      | zero =>
        simp only [List.getElem?_cons_zero, Option.some.injEq, List.getElem?_cons_succ] at h1 h2
        subst h2
        exact absurd (List.mem_of_getElem? h1) hn
      | succ j => exact congrArg (· + 1) (nodupB_inj h i j x (by simpa using h1) (by simpa using h2))
theorem decP_like {m' : Mem S} (hl : ∀ (T : Ty) (x : V S), dec C.E m' T x = dec C.E m T x) : ∀ (ps : List Pat) (args : List (V S)), decP C.E m' ps args = decP C.E m ps args
  | [], _ => by simp [decP]
  | .t T :: ps, [] => rfl
  | .clo _ _ :: ps, [] => rfl
  | .ptr _ :: ps, [] => rfl
  | .t T :: ps, x :: args => by simp only [decP, hl, decP_like hl ps args]
  | .clo _ _ :: ps, x :: args => by simp only [decP, decP_like hl ps args]
  | .ptr _ :: ps, x :: args => by simp only [decP, decP_like hl ps args]
theorem mark_box' {id : Nat} (ids : List Nat) {cs : List (V S)} {fz : Bool} (h : m[id]? = some (.box cs fz)) : (mark m ids)[id]? = some (.box cs fz) := mark_box h
theorem decB_mark (ids0 : List Nat) : ∀ (bx : List Bx) (ids : List Nat) (bs : List (Cell S)), decB C.E m ρ bx ids = some bs → decB C.E (mark m ids0) ρ bx ids = some bs
  | [], [], bs, hd => hd
  | [], _ :: _, bs, hd => by simp [decB] at hd
  | b :: bx, [], bs, hd => by cases b <;> simp [decB] at hd
  | b :: bx, id :: ids, bs, hd => by
    cases b with
    | t T =>
      simp only [decB] at hd ⊢
      split at hd
      · rename_i cs fz hm
        obtain ⟨v, hv, hd⟩ := bsome hd
        split at hd
        · rename_i hv2
          obtain ⟨x, hx, hd⟩ := bsome hd
          obtain ⟨r, hr, hd⟩ := bsome hd
          cases hd
          rw [mark_box' ids0 hm]
          simp only [hv, Option.bind_some, hv2, if_true, dec_marks, hx, decB_mark ids0 bx ids r hr]
        · cases hd
      · cases hd
    | clo g ks =>
      simp only [decB] at hd ⊢
      split at hd
      · rename_i g' caps fz hm
        split at hd
        · rename_i hc
          rw [mark_box' ids0 hm]
          simp only [hc, if_true, decB_mark ids0 bx ids bs hd]
        · cases hd
      · cases hd
theorem semCC_ok (hE : EnvOK C.E) (h : RelM C K w B m) {f : FuncId} {sp : CSpec S} (hsp : CSpecOK C f sp) {args : List (V S)} {vs : Array Value} {x : V S} {m' : Mem S} (hl : vs.size = args.length)
    (hr : ∀ (j : Nat) (v : Value) (y : V S), vs[j]? = some v → args[j]? = some y → RepV C.E K w v y) (hx : (semCC C m sp args).opt = some (x, m')) :
    Calls C.P f vs w fun e w' => ∃ v K', e = .returned v ∧ Ext K w K' w' ∧ Below B w w' ∧ RelM C K' w' B m' ∧ RepV C.E K' w' v x := by
  unfold semCC at hx
  simp only at hx
  generalize hρ : rhoF sp.boxes.length (pairsOf sp.pats args) sp.boxes.length = ρ at hx
  split at hx
  · rename_i hc
    simp only [Bool.and_eq_true] at hc
    obtain ⟨hn, hp⟩ := hc
    obtain ⟨asn, has, hx⟩ := opt_ofOpt_bind hx
    obtain ⟨bs, hbs, hx⟩ := opt_ofOpt_bind hx
    simp only [D.opt] at hx
    cases hrun : sp.run asn bs with
    | none => rw [hrun] at hx; simp at hx
    | some r =>
      rw [hrun] at hx
      simp only [Option.bind_some, D.opt, Option.some.injEq, Prod.mk.injEq] at hx
      obtain ⟨rfl, rfl⟩ := hx
      obtain ⟨hen, hspec⟩ := hsp
      obtain ⟨K1, x1, s1, r1, f1⟩ := freeze h (ownsP sp.pats args)
      obtain ⟨K2, x2, s2, r2, f2⟩ := frzB_ok ρ r1
      have hr1 : ∀ (j : Nat) (v : Value) (y : V S), vs.toList[j]? = some v → args[j]? = some y → RepV C.E K1 w v y := fun j v y p q => (hr j v y (by simpa using p) q).mono x1
      have has' : decP C.E (mark m (ownsP sp.pats args)) sp.pats args = some asn := (decP_like (fun T x => dec_marks m _ T x) _ _).trans has
      have hbs' := decB_mark (ownsP sp.pats args) _ _ _ hbs
      let bl : Nat → Nat := fun k => match ρ[k]? with | some id => K2.ι id | none => 0
      let G := ghB sp.boxes.length bl K2.σ
      have hxG : Ext (gh0 K1.σ) w G w := ⟨Nat.zero_le _, fun i hi => absurd hi (Nat.not_lt_zero i), x2.σ, fun _ _ _ => rfl, fun _ _ _ q => keeps.of q, .inl rfl⟩
      have hup : ∀ v (T : Ty) (y : den S T), RepV C.E (gh0 K1.σ) w v (encV C.E T y) → RepV C.E G w v (encV C.E T y) := fun v T y q => q.mono hxG
      have hlen : ρ.length = sp.boxes.length := by
        rw [← hρ]
        have : ∀ m, (rhoF sp.boxes.length (pairsOf sp.pats args) m).length = m := by
          intro m; induction m with
          | zero => rfl
          | succ m ih => simp only [rhoF, List.length_cons, ih]
        exact this _
      -- all that is held
      have key : ∀ (bx : List Bx) (ids : List Nat) (bs : List (Cell S)), decB C.E (mark m (ownsP sp.pats args)) ρ bx ids = some bs → ∀ id, id ∈ ids → ∃ cs fz, (mark m (ownsP sp.pats args))[id]? = some (.box cs fz) := by
        intro bx
        induction bx with
        | nil => intro ids bs hd id hid; cases ids with | nil => cases hid | cons _ _ => simp [decB] at hd
        | cons b bx ih =>
          intro ids bs hd id hid
          cases ids with
          | nil => cases hid
          | cons i ids =>
            cases b with
            | t T =>
              simp only [decB] at hd
              split at hd
              · rename_i cs fz hm
                obtain ⟨v, hv, hd⟩ := bsome hd
                split at hd
                · obtain ⟨x, hx, hd⟩ := bsome hd
                  obtain ⟨r, hr, hd⟩ := bsome hd
                  rcases List.mem_cons.1 hid with q | q
                  · exact ⟨cs, fz, by rw [q]; exact hm⟩
                  · exact ih ids r hr id q
                · cases hd
              · cases hd
            | clo g ks =>
              simp only [decB] at hd
              split at hd
              · rename_i g' caps fz hm
                split at hd
                · rcases List.mem_cons.1 hid with q | q
                  · exact ⟨_, fz, by rw [q]; exact hm⟩
                  · exact ih ids bs hd id q
                · cases hd
              · cases hd
      have hbox : ∀ k id, ρ[k]? = some id → K1.gen id = 0 := fun k id q => by
        obtain ⟨cs, fz, hm⟩ := key _ _ _ hbs' id (List.mem_of_getElem? q)
        exact (r1.ob id _ hm).1
      have hptr : ∀ k id v, ρ[k]? = some id → RepV C.E K1 w v (.ptr id 0) → RepV C.E G w v (.ptr k 0) := by
        intro k id v hk hv
        cases hv with
        | ptr _ _ _ hn' hp' hh =>
          refine .ptr k 0 v (by show k < sp.boxes.length; rw [← hlen]; exact (List.getElem?_eq_some_iff.1 hk).1) hp' fun _ => ?_
          rw [hh (hbox k id hk)]
          show _ = Value.pointer (some ⟨bl k, 0, none⟩)
          simp only [bl, hk, s2.ι]
      obtain ⟨a1, a2⟩ := patP_rep hE r1 hup hptr sp.pats args asn vs.toList (by simpa using hl) hr1 f1 hp has'
      obtain ⟨b1, b2, b3⟩ := decB_ok hE r1 hup hptr sp.boxes ρ bs hbs'
      have hG : RelM C G w w.heap.size (boxM C.E sp.boxes bs) := by
        refine ⟨b2.symm, fun k o hk => ?_, fun i j hi hj _ _ e => ?_, r2.new, r2.glob, Nat.le_refl _, (K2.σ, fun _ => undef), rfl, fun _ _ => rfl⟩
        · have hk' : k < ρ.length := by rw [hlen, ← b2]; exact (List.getElem?_eq_some_iff.1 hk).1
          obtain ⟨ys, cs, fz, c, e, rfl, hm, q1, q2, q3⟩ := b3 k o ρ[k] hk (List.getElem?_eq_getElem hk')
          obtain ⟨fz', g1, _, g3⟩ := f2 _ cs fz hm
          have gt := g3 (List.getElem_mem hk')
          subst gt
          obtain ⟨hg, hlv, c', e', p1, p2, p3, p4, p5⟩ := r2.ob _ _ g1
          have hbl : G.ι k = K2.ι ρ[k] := by show bl k = _; simp only [bl, List.getElem?_eq_getElem hk']
          have hcc : c' = c := by rw [s2.ι] at p1; rw [p1] at q1; cases q1; rfl
          subst hcc
          exact ⟨rfl, rfl, c', e', by rw [hbl]; exact p1, q2, q3, fun q => (by cases q), fun _ => by rw [hbl]; exact p5 rfl⟩
        · have hi' : i < ρ.length := by rw [hlen]; exact hi
          have hj' : j < ρ.length := by rw [hlen]; exact hj
          have ei : G.ι i = K2.ι ρ[i] := by show bl i = _; simp only [bl, List.getElem?_eq_getElem hi']
          have ej : G.ι j = K2.ι ρ[j] := by show bl j = _; simp only [bl, List.getElem?_eq_getElem hj']
          have li : ∀ k (hk : k < ρ.length), ρ[k] < K2.n ∧ K2.live ρ[k] = true := fun k hk => by
            obtain ⟨cs, fz, hm⟩ := key _ _ _ hbs' ρ[k] (List.getElem_mem hk)
            obtain ⟨fz', g1, _⟩ := f2 _ cs fz hm
            exact ⟨by rw [r2.n]; exact (List.getElem?_eq_some_iff.1 g1).1, (r2.ob _ _ g1).2.1⟩
          have := r2.inj _ _ (li i hi').1 (li j hj').1 (li i hi').2 (li j hj').2 (by rw [← ei, ← ej]; exact e)
          exact nodupB_inj hn i j ρ[i] (List.getElem?_eq_getElem hi') (by rw [List.getElem?_eq_getElem hj', this])
      refine (hspec K2.σ w vs bl asn bs r hG (by simpa using a1) (fun j v y p q => a2 j v y (by simpa using p) q) hrun).mono ?_
      rintro e w' ⟨v, σ', rfl, b1, b2, b3, b4⟩
      obtain ⟨y1, y2⟩ := r2.called b1 b2 b3
      exact ⟨v, _, rfl, (x1.trans x2).trans y1, b1.mono h.base, y2, b4.mono (gh0_to { K2 with σ := σ' } w')⟩
  · simp [D.opt] at hx
def AllCOK (C : Ctx S) : List (Nat × CSpec S) → Prop
  | [] => True
  | p :: r => CSpecOK C p.1 p.2 ∧ AllCOK C r
theorem cspL_ok : ∀ {l : List (Nat × CSpec S)} {f : Nat} {sp : CSpec S}, AllCOK C l → cspL l f = some sp → CSpecOK C f sp
  | [], _, _, _, h => by simp [cspL] at h
  | p :: r, f, sp, ha, h => by
    unfold cspL at h
    cases e : Nat.beq p.1 f with
    | true =>
      rw [e] at h
      simp only [cond_true, Option.some.injEq] at h
      have := Nat.eq_of_beq_eq_true e
      subst this h
      exact ha.1
    | false =>
      rw [e] at h
      exact cspL_ok ha.2 h
end
theorem CSpecOK.re {C C' : Ctx S} {f : FuncId} {sp : CSpec S} (h : CSpecOK C f sp) (hP : C'.P = C.P) (hE : C'.E = C.E) (hG : C'.G = C.G) : CSpecOK C' f sp := by
  unfold CSpecOK at h ⊢
  rw [hP, hE]
  refine ⟨h.1, fun σ w vs bl asn bs r hm hl hr hrun => h.2 σ w vs bl asn bs r ?_ hl hr hrun⟩
  refine ⟨hm.n, fun i o q => by have := hm.ob i o q; rwa [hE] at this, hm.inj, hm.new, fun g cs q => ?_, hm.base, hm.old⟩
  have := hm.glob g cs (by rw [hG]; exact q)
  rwa [hE] at this
section
variable (C : Ctx S)
/-- A call that is gone into, its own calls by cl. -/
def into (cl : Cl S) : Cl S := fun f args m => match C.P.funcs[f]? with
  | some fn => match fn.body with
    | some b => ex C cl (fun _ _ => .fail) (fun s => (D.ofOpt (resV C fn.results.toList s)).bind fun v => .ret (v, s.mem)) fuel [.code b] (st0 fn args m)
    | none => .fail
  | none => .fail
def intoF (cl : Cl S) : Cl S := fun f args m => match C.P.funcs[f]? with
  | some fn => match fn.body with
    | some b => fcT (st0 fn args m) fun s => exF C cl (fun _ _ => .fail) (fun s => (D.ofOpt (resV C fn.results.toList s)).bind fun v => .ret (v, s.mem)) fuel [.code b] s
    | none => .fail
  | none => .fail
theorem into_eq (cl : Cl S) : intoF C cl = into C cl := by
  funext f args m
  unfold intoF into
  cases C.P.funcs[f]? with
  | none => rfl
  | some fn =>
    simp only
    cases fn.body with
    | none => rfl
    | some b => exact fcT_eq _ _ (fun s => ex C cl (fun _ _ => .fail) (fun s => (D.ofOpt (resV C fn.results.toList s)).bind fun v => .ret (v, s.mem)) fuel [.code b] s) fun s h => exF_eq C _ _ _ _ _ s h
/-- Calls of those that have contracts over closures, and calls that are gone into. -/
def clK (l : List (Nat × CSpec S)) : Nat → Cl S
  | 0 => ccCl C l fun _ _ _ => .fail
  | d + 1 => ccCl C l (into C (clK l d))
def clKF (l : List (Nat × CSpec S)) : Nat → Cl S
  | 0 => ccCl C l fun _ _ _ => .fail
  | d + 1 => ccCl C l (intoF C (clKF l d))
theorem clKF_eq (l : List (Nat × CSpec S)) : ∀ d, clKF C l d = clK C l d
  | 0 => rfl
  | d + 1 => by unfold clKF clK; rw [into_eq, clKF_eq l d]
theorem runKF_eq {R : Type} (l : List (Nat × CSpec S)) (d : Nat) (L : (St S → D R) → Lp S R) (f : FuncId) (ts : List Ty) (de : List (Cell S) → Option R) (args : List (V S)) : runW C (clK C l d) L f ts de args = runWF C (clKF C l d) L f ts de args := by
  unfold runWF runW
  rw [clKF_eq]
  cases body? C f with
  | none => rfl
  | some p => exact (fcT_eq _ _ (fun s => ex C (clK C l d) (L (finR C p.1 ts de)) (finR C p.1 ts de) fuel [.code p.2] s) fun s h => exF_eq C _ _ _ _ _ s h).symm
theorem roundKF_eq {R : Type} (l : List (Nat × CSpec S)) (d : Nat) (hd : List Item → St S → Option (St S)) (f : FuncId) (i : Nat) (ts : List Ty) (de : List (Cell S) → Option R) (L : Lp S R) (s : St S) : roundW C (clK C l d) hd f i ts de L s = roundWF C (clKF C l d) hd f i ts de L s := by
  unfold roundWF roundW
  rw [clKF_eq]
  cases todoOf C f i with
  | nil => rfl
  | cons x k => cases x with
    | inLoop c => exact (fcT_eq _ _ (fun s => ex C (clK C l d) (canonL hd L) (finW C f ts de) fuel (.code c :: .inLoop c :: k) s) fun s h => exF_eq C _ _ _ _ _ s h).symm
    | _ => rfl
/-- Runs that begin with boxes. -/
def runM {R : Type} (cl : Cl S) (L : (St S → D R) → Lp S R) (f : FuncId) (ts : List Ty) (de : List (Cell S) → Option R) (args : List (V S)) (m : Mem S) : D R :=
  match body? C f with
  | some (fn, b) => ex C cl (L (finR C fn ts de)) (finR C fn ts de) fuel [.code b] (st0 fn args m)
  | none => .fail
def runMF {R : Type} (cl : Cl S) (L : (St S → D R) → Lp S R) (f : FuncId) (ts : List Ty) (de : List (Cell S) → Option R) (args : List (V S)) (m : Mem S) : D R :=
  match body? C f with
  | some (fn, b) => fcT (st0 fn args m) fun s => exF C cl (L (finR C fn ts de)) (finR C fn ts de) fuel [.code b] s
  | none => .fail
theorem runMF_eq {R : Type} (l : List (Nat × CSpec S)) (d : Nat) (L : (St S → D R) → Lp S R) (f : FuncId) (ts : List Ty) (de : List (Cell S) → Option R) (args : List (V S)) (m : Mem S) : runM C (clK C l d) L f ts de args m = runMF C (clKF C l d) L f ts de args m := by
  unfold runMF runM
  rw [clKF_eq]
  cases body? C f with
  | none => rfl
  | some p => exact (fcT_eq _ _ (fun s => ex C (clK C l d) (L (finR C p.1 ts de)) (finR C p.1 ts de) fuel [.code p.2] s) fun s h => exF_eq C _ _ _ _ _ s h).symm
def runMh {R : Type} (cl : Cl S) (hd : List Item → St S → Option (St S)) (f : FuncId) (ts : List Ty) (de : List (Cell S) → Option R) (n : Nat) (args : List (V S)) (m : Mem S) : D R :=
  runM C cl (fun fin => canonL hd (Lfix C cl hd fin n)) f ts de args m
theorem runMh_eq {R : Type} (cl : Cl S) (hd : List Item → St S → Option (St S)) (f : FuncId) (ts : List Ty) (de : List (Cell S) → Option R) (n : Nat) (args : List (V S)) (m : Mem S) :
    runMh C cl hd f ts de n args m = runM C cl (fun _ => canonL hd (Lfix C cl hd (finW C f ts de) n)) f ts de args m := by
  unfold runMh runM finW
  cases body? C f with
  | none => rfl
  | some p => rfl
end
section
variable {C : Ctx S}
/-- What is asked at one function. -/
def ClAt (C : Ctx S) (cl : Cl S) (f : FuncId) : Prop := Enters C.P f ∧
  ∀ (K : Gh) (w : World) (B : Nat) (m : Mem S) (args : List (V S)) (vs : Array Value) (x : V S) (m' : Mem S), RelM C K w B m → vs.size = args.length → (∀ (j : Nat) (v : Value) (y : V S), vs[j]? = some v → args[j]? = some y → RepV C.E K w v y) →
    (cl f args m).opt = some (x, m') → Calls C.P f vs w fun e w' => ∃ v K', e = .returned v ∧ Ext K w K' w' ∧ Below B w w' ∧ RelM C K' w' B m' ∧ RepV C.E K' w' v x
theorem ccCl_ok (hE : EnvOK C.E) {l : List (Nat × CSpec S)} (hl : AllCOK C l) {base : Cl S} (hb : ∀ f, C.inl f = true → cspL l f = none → ClAt C base f) (hw : ∀ f, C.wf f = false) : ClOK C (ccCl C l base) := by
  refine ⟨ClW.none hw, fun f hf => ?_⟩
  cases hc : cspL l f with
  | some sp =>
    have hsp := cspL_ok hl hc
    refine ⟨hsp.1, fun K w B m args vs x m' hm hs hr hx => ?_⟩
    unfold ccCl at hx
    rw [hc] at hx
    exact semCC_ok hE hm hsp hs hr hx
  | none =>
    obtain ⟨h1, h2⟩ := hb f hf hc
    refine ⟨h1, fun K w B m args vs x m' hm hs hr hx => ?_⟩
    unfold ccCl at hx
    rw [hc] at hx
    exact h2 K w B m args vs x m' hm hs hr hx
theorem fnOk_enters {f : FuncId} (hok : fnOk C f = true) : Enters C.P f := by
  unfold fnOk at hok
  cases hfn : C.P.funcs[f]? with
  | none => rw [hfn] at hok; cases hok
  | some fn =>
    rw [hfn] at hok
    simp only at hok
    cases hb : fn.body with
    | none => rw [hb] at hok; cases hok
    | some c =>
      rw [hb] at hok
      simp only [Bool.and_eq_true] at hok
      exact ⟨fn, hfn, by rw [hb]; rfl, by simpa using hok.2⟩
theorem into_ok (hE : EnvOK C.E) (hT : TyOK C) (hS : ∀ f sp, C.spec f = some sp → SpecOK C f sp) (hM : C.P.follows .mixedOrders = true) {f : FuncId} (hok : fnOk C f = true) {cl : Cl S} (hC : ClOK C cl) : ClAt C (into C cl) f := by
  refine ⟨fnOk_enters hok, fun K w B m args vs x m' hm hl hr h => ?_⟩
  unfold fnOk at hok
  simp only [into] at h
  cases hfn : C.P.funcs[f]? with
  | none => rw [hfn] at hok; cases hok
  | some fn =>
    rw [hfn] at hok h
    simp only at hok h
    cases hb : fn.body with
    | none => rw [hb] at hok; cases hok
    | some c =>
      rw [hb] at hok h
      simp only [Bool.and_eq_true] at hok h
      obtain ⟨hc, hname⟩ := hok
      refine calls_of_runs hfn hb fun b cs => ?_
      have := ex_ok (B := B) (K0 := K) (w0 := w) (b := b) (cs := cs) (L := fun _ _ => .fail) (fin := fun s => (D.ofOpt (resV C fn.results.toList s)).bind fun v => .ret (v, s.mem))
        (T := fun r a w' => a.defers = [] ∧ ∃ v, (results fn a.tmps).run C.P w' = .ok v w' ∧ ∃ K', Ext K w K' w' ∧ Below B w w' ∧ RelM C K' w' B r.2 ∧ RepV C.E K' w' v r.1)
        hE hT hS hC hM (fun c k s r a w _ _ hh => by simp [D.opt] at hh) (fun id ops dr k s r a w _ _ _ hh => by simp [D.opt] at hh)
        (fun s r a w' ⟨K', x1, x2, x3⟩ hh => by
          obtain ⟨y, hy, hh⟩ := opt_ofOpt_bind hh
          simp only [D.opt, Option.some.injEq] at hh
          subst hh
          obtain ⟨v, v1, v2⟩ := results_run x3 fn hy
          exact ⟨x3.defers, v, v1, K', x1, x2, x3.mem, v2⟩)
        fuel [.code c] (st0 fn args m) (x, m') _ w (by simp [itemsOk, itemOk, hc]) ⟨K, .refl K w, Below.refl B w, RelS.start hm fn hl hr⟩ h
      obtain ⟨a', w', t', ⟨hd, v, v1, K', q1, q2, q3, q4⟩, st⟩ := this
      exact ⟨a', w', t', ⟨hd, v, v1, v, K', rfl, q1, q2, q3, q4⟩, st⟩
theorem clK_ok (hE : EnvOK C.E) (hT : TyOK C) (hS : ∀ f sp, C.spec f = some sp → SpecOK C f sp) (hM : C.P.follows .mixedOrders = true) {l : List (Nat × CSpec S)} (hI : ∀ f, C.inl f = true → cspL l f = none → fnOk C f = true) (hl : AllCOK C l) (d : Nat) (hw : ∀ f, C.wf f = false := by exact fun _ => rfl) : ClOK C (clK C l d) := match d with
  | 0 => ccCl_ok hE hl (fun f hf hn => ⟨fnOk_enters (hI f hf hn), fun K w B m args vs x m' _ _ _ h => by simp [D.opt] at h⟩) hw
  | d + 1 => ccCl_ok hE hl (fun f hf hn => into_ok hE hT hS hM (hI f hf hn) (clK_ok hE hT hS hM hI hl d hw)) hw
theorem inlK_ok {l : List Nat} {lc : List (Nat × CSpec S)} (hl : C.inl = inL l) (h : (l.all fun f => (cspL lc f).isSome || fnOk C f) = true) : ∀ f, C.inl f = true → cspL lc f = none → fnOk C f = true := by
  intro f hf hn
  rw [hl] at hf
  have := (List.all_eq_true.1 h) f (inL_mem hf)
  rw [hn] at this
  simpa using this
/-- A contract over closures from a run. -/
theorem cspec_ok {cl : Cl S} (hE : EnvOK C.E) (hT : TyOK C) (hS : ∀ f sp, C.spec f = some sp → SpecOK C f sp) (hC : ClOK C cl) (hM : C.P.follows .mixedOrders = true) {hd : List Item → St S → Option (St S)} (hH : HdOK C hd)
    {f : FuncId} (hok : fnOk C f = true) {sp : CSpec S} (ts : List Ty) (de : List (Cell S) → Option sp.R) (hde : ∀ cs r, de cs = some r → cs = sp.enc r)
    (hev : ∀ asn bs r, sp.run asn bs = some r → ∃ n, (runMh C cl hd f ts de n (patV C.E sp.pats asn) (boxM C.E sp.boxes bs)).opt = some r) : CSpecOK C f sp := by
  unfold fnOk at hok
  cases hfn : C.P.funcs[f]? with
  | none => rw [hfn] at hok; cases hok
  | some fn =>
    rw [hfn] at hok
    simp only at hok
    cases hb : fn.body with
    | none => rw [hb] at hok; cases hok
    | some c =>
      rw [hb] at hok
      simp only [Bool.and_eq_true] at hok
      obtain ⟨hc, hname⟩ := hok
      refine ⟨⟨fn, hfn, by rw [hb]; rfl, by simpa using hname⟩, fun σ w vs bl asn bs r hm0 hsz hargs hrun => ?_⟩
      obtain ⟨n, hn⟩ := hev asn bs r hrun
      have hbody : body? C f = some (fn, c) := by unfold body?; rw [hfn]; simp [hb]
      unfold runMh runM at hn
      rw [hbody] at hn
      simp only at hn
      let K0 : Gh := { gh0 σ with σ0 := some (σ, fun _ => undef) }
      have hx0 : Ext K0 w (ghB sp.boxes.length bl σ) w := ⟨Nat.zero_le _, fun i hi => absurd hi (Nat.not_lt_zero i), fun _ => Nat.le_refl _, fun _ _ _ => rfl, fun _ _ _ h => keeps.of h, .inr rfl⟩
      refine calls_of_runs hfn hb fun b fs => ?_
      have hF : ∀ s r a w', At C w.heap.size K0 w s a w' → (finR C fn ts de s).opt = some r → a.defers = [] ∧ ∃ v σ', (results fn a.tmps).run C.P w' = .ok v w' ∧ Below w.heap.size w w' ∧ (∀ b, b < w.heap.size → σ' b = σ b) ∧ (∀ b, w'.heap.size ≤ b → σ' b = 0) ∧ RepV C.E (gh0 σ') w' v (encAll C.E (sp.enc r)) := by
        rintro s r a w' ⟨K, x1, x2, x3⟩ hf
        obtain ⟨cs', h1, h2⟩ := opt_bind_some hf
        have h2' : de cs' = some r := by
          cases hd : de cs' with
          | none => rw [hd] at h2; simp [D.ofOpt, D.opt] at h2
          | some q => rw [hd] at h2; simp only [D.ofOpt, D.opt, Option.some.injEq] at h2; rw [h2]
        obtain ⟨v, K', g1, g2, ⟨m, g3⟩, g4⟩ := finT_rep hE x3 fn h1
        rw [hde cs' r h2'] at g4
        obtain ⟨F, f1, f2⟩ := g3.old
        have hxx := x1.trans g2
        have hF : F = (σ, fun _ => undef) := by
          rcases hxx.σ0 with q | q
          · cases q
          · rw [f1] at q; cases q; rfl
        subst hF
        exact ⟨x3.defers, v, K'.σ, g1, x2, f2, g3.new, g4⟩
      have hA : At C w.heap.size K0 w (st0 fn (patV C.E sp.pats asn) (boxM C.E sp.boxes bs)) { tmps := vs ++ Array.replicate (fn.ntmps - vs.size) undef, defers := [] } w :=
        ⟨_, hx0, Below.refl _ w, RelS.start hm0 fn (by rw [patV_len]; exact hsz) hargs⟩
      obtain ⟨a', w', t', ⟨hd', v, σ', q1, q2, q3, q4, q5⟩, st⟩ := ex_ok (b := b) (cs := fs) hE hT hS hC hM (canon_ok (T := fun r a w' => a.defers = [] ∧ ∃ v σ', (results fn a.tmps).run C.P w' = .ok v w' ∧ Below w.heap.size w w' ∧ (∀ b, b < w.heap.size → σ' b = σ b) ∧ (∀ b, w'.heap.size ≤ b → σ' b = 0) ∧ RepV C.E (gh0 σ') w' v (encAll C.E (sp.enc r))) hE hT hS hC hM rfl hH hF (fix_ok hE hT hS hC hM rfl hH hF n)) (fun id ops dr k s r a w _ _ _ hh => (no_hook n hh).elim) hF fuel _ _ r _ w (by simp [itemsOk, itemOk, hc]) hA hn
      exact ⟨a', w', t', ⟨hd', v, q1, v, σ', rfl, q2, q3, q4, q5⟩, st⟩
end
/-- A run over arguments and boxes. -/
def runC {R : Type} (n : Nat) (F : List (Cell S) → Option R) (asn bs : List (Cell S)) : Option R := if asn.length = n then F (asn ++ bs) else none
theorem invC {R : Type} {n : Nat} {F : List (Cell S) → Option R} {asn bs : List (Cell S)} {r : R} (h : runC n F asn bs = some r) : ∃ cs, asn = cs.take n ∧ bs = cs.drop n ∧ F cs = some r := by
  unfold runC at h
  split at h
  · rename_i hl
    subst hl
    exact ⟨asn ++ bs, by simp, by simp, h⟩
  · cases h
end Go.Lv
namespace Go.Lv
set_option linter.all false
open Go Go.RowKit Go.Proofs
variable {S : Nat → Type}
def entersB (P : Program) (f : FuncId) : Bool := match P.funcs[f]? with
  | some fn => !fn.body.isNone && !(fn.name == "runtime.NumGoroutine")
  | none => false
theorem enters_of {P : Program} {f : FuncId} (h : entersB P f = true) : Enters P f := by
  unfold entersB at h
  split at h
  · rename_i fn hfn
    simp only [Bool.and_eq_true, Bool.not_eq_true'] at h
    exact ⟨fn, hfn, h.1, h.2⟩
  · cases h
/-- A forced run over whatever is gone into. -/
theorem runWF_cl {C : Ctx S} {R : Type} (cl : Cl S) (L : (St S → D R) → Lp S R) (f : FuncId) (ts : List Ty) (de : List (Cell S) → Option R) (args : List (V S)) : runW C cl L f ts de args = runWF C cl L f ts de args := by
  unfold runWF runW
  cases body? C f with
  | none => rfl
  | some p => exact (fcT_eq _ _ (fun s => ex C cl (L (finR C p.1 ts de)) (finR C p.1 ts de) fuel [.code p.2] s) fun s h => exF_eq C _ _ _ _ _ s h).symm
theorem roundWF_cl {C : Ctx S} {R : Type} (cl : Cl S) (hd : List Item → St S → Option (St S)) (f : FuncId) (i : Nat) (ts : List Ty) (de : List (Cell S) → Option R) (L : Lp S R) (s : St S) : roundW C cl hd f i ts de L s = roundWF C cl hd f i ts de L s := by
  unfold roundWF roundW
  cases todoOf C f i with
  | nil => rfl
  | cons x k => cases x with
    | inLoop c => exact (fcT_eq _ _ (fun s => ex C cl (canonL hd L) (finW C f ts de) fuel (.code c :: .inLoop c :: k) s) fun s h => exF_eq C _ _ _ _ _ s h).symm
    | _ => rfl
end Go.Lv
namespace Go.Lv
set_option linter.all false
open Go Go.RowKit
variable {S : Nat → Type}
/-! Closures that take the first word of a box of words, as one step each. -/
def wHead (l : List (List UInt8)) : List UInt8 := match l with
  | [] => []
  | x :: _ => x
def word1 (args : List (V S)) (m : Mem S) : D (V S × Mem S) := match args, m with
  | [.ptr 1 0], b0 :: .box [.cell (.slice .str) l] false :: r => .ret (.cell .str (wHead l), b0 :: .box [.cell (.slice .str) (List.tail l)] false :: r)
  | _, _ => .fail
def word2 (g1 : FuncId) (num : List UInt8 → Option (Int × Bool)) (args : List (V S)) (m : Mem S) : D (V S × Mem S) := match args, m with
  | [.ptr 2 0], b0 :: .box [.cell (.slice .str) l] false :: .box [.clo g [] [.ptr 1 0]] z :: r => bif Nat.beq g g1 then .call (num (wHead l)) fun x => .ret (.cell (.int .i64) x.1, b0 :: .box [.cell (.slice .str) (List.tail l)] false :: .box [.clo g [] [.ptr 1 0]] z :: r) else .fail
  | _, _ => .fail
def wordCl (g1 g2 : FuncId) (num : List UInt8 → Option (Int × Bool)) (base : Cl S) : Cl S := fun f args m =>
  bif Nat.beq f g1 then word1 args m else bif Nat.beq f g2 then word2 g1 num args m else base f args m
/-- The same context, without closures that turn boxes. -/
def Ctx.nw (C : Ctx S) : Ctx S := { C with wf := fun _ => false, wb := fun _ => false, flat := false }
theorem RelM.nw {C : Ctx S} {K : Gh} {w : World} {B : Nat} {m : Mem S} (h : RelM C K w B m) : RelM C.nw K w B m := ⟨h.n, h.ob, h.inj, h.new, h.glob, h.base, h.old⟩
theorem RelM.unnw {C : Ctx S} {K : Gh} {w : World} {B : Nat} {m : Mem S} (h : RelM C.nw K w B m) : RelM C K w B m := ⟨h.n, h.ob, h.inj, h.new, h.glob, h.base, h.old⟩
theorem SpecOK.nw {C : Ctx S} {f : FuncId} {sp : Spec S} (h : SpecOK C f sp) : SpecOK C.nw f sp := h
theorem word1_some {args : List (V S)} {m m' : Mem S} {x : V S} (h : (word1 args m).opt = some (x, m')) : ∃ b0 l r, args = [.ptr 1 0] ∧ m = b0 :: .box [.cell (.slice .str) l] false :: r ∧ x = .cell .str (wHead l) ∧ m' = b0 :: .box [.cell (.slice .str) (List.tail l)] false :: r := by
  unfold word1 at h
  split at h
  · simp only [D.opt, Option.some.injEq, Prod.mk.injEq] at h
    exact ⟨_, _, _, rfl, rfl, h.1.symm, h.2.symm⟩
  · simp [D.opt] at h
theorem word2_some {g1 : FuncId} {num : List UInt8 → Option (Int × Bool)} {args : List (V S)} {m m' : Mem S} {x : V S} (h : (word2 g1 num args m).opt = some (x, m')) :
    ∃ b0 l z r y, args = [.ptr 2 0] ∧ m = b0 :: .box [.cell (.slice .str) l] false :: .box [.clo g1 [] [.ptr 1 0]] z :: r ∧ num (wHead l) = some y ∧ x = .cell (.int .i64) y.1 ∧ m' = b0 :: .box [.cell (.slice .str) (List.tail l)] false :: .box [.clo g1 [] [.ptr 1 0]] z :: r := by
  unfold word2 at h
  split at h
  · rename_i b0 l g z r
    cases e3 : Nat.beq g g1 with
    | true =>
      rw [e3] at h
      have := Nat.eq_of_beq_eq_true e3
      subst this
      simp only [cond_true, D.opt] at h
      cases e : num (wHead l) with
      | none => rw [e] at h; cases h
      | some y =>
        rw [e] at h
        simp only [Option.bind_some, D.opt, Option.some.injEq, Prod.mk.injEq] at h
        exact ⟨_, _, _, _, y, rfl, rfl, e, h.1.symm, h.2.symm⟩
    | false =>
      rw [e3] at h
      simp [D.opt] at h
  · simp [D.opt] at h
theorem wordCl_ok {C : Ctx S} {g1 g2 : FuncId} {num : List UInt8 → Option (Int × Bool)} {base : Cl S} (hb : ClOK C.nw base)
    (h1 : ∀ (b0 : Ob S) (l : List (List UInt8)) (r : Mem S), (base g1 [.ptr 1 0] (b0 :: .box [.cell (.slice .str) l] false :: r)).opt = some (.cell .str (wHead l), b0 :: .box [.cell (.slice .str) (List.tail l)] false :: r))
    (h2 : ∀ (b0 : Ob S) (l : List (List UInt8)) (z : Bool) (r : Mem S), (base g2 [.ptr 2 0] (b0 :: .box [.cell (.slice .str) l] false :: .box [.clo g1 [] [.ptr 1 0]] z :: r)).opt =
      (num (wHead l)).bind fun x => some (.cell (.int .i64) x.1, b0 :: .box [.cell (.slice .str) (List.tail l)] false :: .box [.clo g1 [] [.ptr 1 0]] z :: r))
    (hwf : C.wf = inL [g1, g2]) (hwb : C.wb 1 = true) : ClOK C (wordCl g1 g2 num base) := by
  have keep : ∀ (b0 : Ob S) (x y : Ob S) (r : Mem S), BoxKeep C (b0 :: x :: r) (b0 :: y :: r) := fun b0 x y r id cs fz hid hm => by
    match id, hid, hm with
    | 0, _, hm => exact hm
    | 1, hid, _ => rw [hwb] at hid; cases hid
    | n + 2, _, hm => exact hm
  refine ⟨fun f args m x m' hf h => ?_, fun f hf => ⟨(hb.2 f hf).1, fun K w B m args vs x m' hm hl hr h => ?_⟩⟩
  · unfold wordCl at h
    cases e1 : Nat.beq f g1 with
    | true =>
      rw [e1] at h
      obtain ⟨b0, l, r, rfl, rfl, rfl, rfl⟩ := word1_some h
      exact keep _ _ _ _
    | false =>
      cases e2 : Nat.beq f g2 with
      | true =>
        rw [e1, e2] at h
        obtain ⟨b0, l, z, r, y, rfl, rfl, _, rfl, rfl⟩ := word2_some h
        exact keep _ _ _ _
      | false =>
        rw [hwf] at hf
        have := inL_mem hf
        simp only [List.mem_cons, List.not_mem_nil, or_false] at this
        rcases this with rfl | rfl
        · rw [Nat.beq_refl] at e1; cases e1
        · rw [Nat.beq_refl] at e2; cases e2
  have go : (base f args m).opt = some (x, m') := by
    unfold wordCl at h
    cases e1 : Nat.beq f g1 with
    | true =>
      rw [e1] at h
      have := Nat.eq_of_beq_eq_true e1
      subst this
      obtain ⟨b0, l, r, rfl, rfl, rfl, rfl⟩ := word1_some h
      exact h1 _ _ _
    | false =>
      cases e2 : Nat.beq f g2 with
      | true =>
        rw [e1, e2] at h
        have := Nat.eq_of_beq_eq_true e2
        subst this
        obtain ⟨b0, l, z, r, y, rfl, rfl, hy, rfl, rfl⟩ := word2_some h
        refine (h2 _ _ _ _).trans ?_
        rw [hy]; rfl
      | false =>
        rw [e1, e2] at h
        exact h
  refine ((hb.2 f hf).2 K w B m args vs x m' hm.nw hl hr go).mono ?_
  rintro e w' ⟨v, K', a1, a2, a3, a4, a5⟩
  exact ⟨v, K', a1, a2, a3, a4.unnw, a5⟩
/-- The runs of the two closures, as they are printed. -/
theorem word1_tree {α : Type} (l : List (List UInt8)) (k : List UInt8 → List (List UInt8) → Option α) :
    (bif ((List.length l : Int) == 0) then k [] l else ((geti l 0).bind fun x1 => (bif (okBounds (l.length : Int) 1 (l.length : Int) none) then k x1 ((l.take (Int.toNat (l.length : Int))).drop (Int.toNat 1)) else none))) = k (wHead l) (List.tail l) := by
  cases l with
  | nil => rfl
  | cons x r =>
    have e1 : ((List.length (x :: r) : Int) == 0) = false := by simp; omega
    have e2 : okBounds ((x :: r).length : Int) 1 ((x :: r).length : Int) none = true := by simp [okBounds]; omega
    rw [e1, e2]
    simp [geti, wHead]
end Go.Lv
namespace Go.Lv
set_option linter.all false
open Go Go.RowKit Go.Proofs Go.Shelf
variable {S : Nat → Type}
/-- strings.Index of one byte. -/
def strings_Index (s sep : List UInt8) : Option Int := match sep with
  | [c] => some (Lib.indexByte s c)
  | _ => none
def spIndex : Spec S := { args := [.str, .str], R := Int, run := run2 .str .str strings_Index, enc := enc1 (.int .i64) }
theorem ok_Index {C : Ctx S} {ρ : Ren} (L : Lays.n143 C.P ρ) (he : Enters C.P (ρ.f 143)) : SpecOK C (ρ.f 143) spIndex := by
  refine ⟨he, fun σ w vs cs r hglob hnew hargs hrun => ?_⟩
  obtain ⟨s, sep, rfl, h⟩ := inv2 hrun
  have hv := arr2 hargs.1 (arg_str hargs rfl) (arg_str hargs rfl)
  subst hv
  have hc : ∃ c, sep = [c] ∧ r = Lib.indexByte s c := by
    match sep, h with
    | [c], h => exact ⟨c, rfl, (Option.some.inj h).symm⟩
  obtain ⟨c, rfl, rfl⟩ := hc
  refine (Any.strings_Index_one L ⟨List.toArray s⟩ c w).mono ?_
  rintro e w' ⟨rfl, rfl⟩
  exact ret_leaf hnew (Below.refl _ _) (.cell (.int _ _))
end Go.Lv
