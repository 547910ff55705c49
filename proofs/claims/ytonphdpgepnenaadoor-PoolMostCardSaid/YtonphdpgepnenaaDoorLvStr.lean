import Derived.Test.YtonphdpgepnenaaDoorLvForce
import Derived.Shelf.Strings.Split
import Derived.Shelf.Strings.Cut
import Derived.Shelf.Strings.OnBuilder
import Derived.Shelf.Strconv.Itoa3
import Derived.Shelf.Strconv.AtoiAll
import Derived.Lib.IndexBytes
namespace Go.Lv
set_option linter.all false
open Go Go.RowKit Go.Proofs Go.Shelf
variable {S : Nat → Type}
def lvEntersB (P : Program) (f : FuncId) : Bool := match P.funcs[f]? with
  | some fn => !fn.body.isNone && !(fn.name == "runtime.NumGoroutine")
  | none => false
theorem lvEnters {P : Program} {f : FuncId} (h : lvEntersB P f = true) : Enters P f := by
  unfold lvEntersB at h
  split at h
  · rename_i fn hfn
    simp only [Bool.and_eq_true, Bool.not_eq_true'] at h
    exact ⟨fn, hfn, h.1, h.2⟩
  · cases h
/-- What the library's functions of strings give, as lists of bytes; none where their contracts ask more. -/
def strconv_Itoa (n : Int) : Option (List UInt8) := if -9223372036854775808 ≤ n ∧ n ≤ 9223372036854775807 then some (Lib.itoa n) else none
def strings_Join (l : List (List UInt8)) (sep : List UInt8) : Option (List UInt8) := if l.length ≤ 140737488355328 ∧ (Lib.join l sep).length ≤ 140737488355328 then some (Lib.join l sep) else none
def strings_Split (s sep : List UInt8) : Option (List (List UInt8)) := if s.length < 4294967281 ∧ sep.length = 1 then some (Lib.split s sep) else none
def strings_Cut (s sep : List UInt8) : Option (List UInt8 × List UInt8 × Bool) := if s.length < 4294967281 ∧ sep.length = 1 then some (Lib.cut s sep) else none
def strconv_Atoi (s : List UInt8) : Option (Int × Bool) := if s.length ≤ 281474976710656 then (match Lib.atoiAll s with
  | .ok v => some (v, false)
  | .range => some (Lib.atoiSat s, true)
  | _ => some (0, true)) else none

def intCells (k : IntKind) : List Int → List (V S)
  | [] => []
  | z :: r => .cell (.int k) z :: intCells k r
theorem intCells_len (k : IntKind) : ∀ zs : List Int, (intCells (S := S) k zs).length = zs.length
  | [] => rfl
  | z :: r => by simp [intCells, intCells_len k r]
theorem intCells_get (k : IntKind) : ∀ (zs : List Int) (i : Nat) (h : i < zs.length), (intCells (S := S) k zs)[i]? = some (.cell (.int k) zs[i])
  | z :: r, 0, _ => rfl
  | z :: r, i + 1, h => by
    simp only [intCells, List.getElem?_cons_succ, List.getElem_cons_succ]
    exact intCells_get k r i (by simpa using h)
theorem szB (s : List UInt8) : (⟨s.toArray⟩ : ByteArray).size = s.length := by simp [ByteArray.size]

section
variable {C : Ctx S} {σ : Nat → Nat} {w : World}
theorem glob_ints {g : Nat} {k : IntKind} {zs : List Int} (h : GlobOK C σ w) (hG : C.G g = some (intCells k zs)) : ∃ t f, w.heap[g]? = some (.cells (zs.map (Value.int k)).toArray t f) := by
  obtain ⟨h1, h2, c, t, f, h3, h4⟩ := h g _ hG
  rw [intCells_len] at h4
  refine ⟨t, f, ?_⟩
  have : c = (zs.map (Value.int k)).toArray := by
    apply Array.ext
    · rw [h4]; simp
    · intro i i1 i2
      have hz : i < zs.length := by simpa using i2
      generalize hp : Value.pointer (some ⟨g, 0, none⟩) = p at h1
      cases h1 with
      | ro b off vs fn hst hc hr =>
        cases hp
        have e1 := hc i (by rw [intCells_len]; exact hz)
        rw [Nat.zero_add] at e1
        have e2 := hr i _ (intCells_get k zs i hz)
        have e3 : w.cell? ⟨g, i, none⟩ = some c[i] := by simp [World.cell?, h3, i1]
        rw [e3] at e1
        have e4 := int_of e2
        have e5 : c[i] = fn i := Option.some.inj e1
        rw [e5, e4]
        simp
  rw [← this]; exact h3
theorem glob_err {g : Nat} (h : GlobOK C σ w) (hG : C.G g = some [V.cell .err true]) : ∃ te pe, w.cell? ⟨g, 0, none⟩ = some (.iface te pe) := by
  obtain ⟨h1, _⟩ := h g _ hG
  generalize hp : Value.pointer (some ⟨g, 0, none⟩) = p at h1
  cases h1 with
  | ro b off vs fn hst hc hr =>
    cases hp
    have e1 := hc 0 (by simp)
    have e2 := hr 0 (V.cell .err true) rfl
    rw [Nat.zero_add] at e1
    have e3 := cell_inv e2
    generalize fn 0 = u at e1 e3
    cases e3 with
    | err t v => exact ⟨t, v, e1⟩
theorem arg_int {vs : Array Value} {cs : List (Cell S)} {k : IntKind} {n : Int} (h : RepArgs C.E σ w vs cs) {j : Nat} (hj : cs[j]? = some ⟨.int k, n⟩) : vs[j]? = some (.int k n) := by
  obtain ⟨h1, h2⟩ := h
  have hlt : j < vs.size := by rw [h1]; exact (List.getElem?_eq_some_iff.1 hj).1
  have := h2 j vs[j] _ (by simp [hlt]) hj
  rw [Array.getElem?_eq_getElem hlt]
  exact congrArg some (int_of this)
theorem arg_str {vs : Array Value} {cs : List (Cell S)} {l : List UInt8} (h : RepArgs C.E σ w vs cs) {j : Nat} (hj : cs[j]? = some ⟨.str, l⟩) : vs[j]? = some (.string ⟨l.toArray⟩) := by
  obtain ⟨h1, h2⟩ := h
  have hlt : j < vs.size := by rw [h1]; exact (List.getElem?_eq_some_iff.1 hj).1
  have := h2 j vs[j] _ (by simp [hlt]) hj
  rw [Array.getElem?_eq_getElem hlt]
  exact congrArg some (str_of this)
theorem arr1 {vs : Array Value} {a : Value} (h : vs.size = 1) (h0 : vs[0]? = some a) : vs = #[a] := by
  apply Array.ext
  · simpa using h
  · intro i h1 h2
    have : i = 0 := by simpa using h2
    subst this
    have := (Array.getElem?_eq_some_iff.1 h0).2
    simpa using this
theorem arr2 {vs : Array Value} {a b : Value} (h : vs.size = 2) (h0 : vs[0]? = some a) (h1 : vs[1]? = some b) : vs = #[a, b] := by
  apply Array.ext
  · simpa using h
  · intro i i1 i2
    have e0 := (Array.getElem?_eq_some_iff.1 h0).2
    have e1 := (Array.getElem?_eq_some_iff.1 h1).2
    match i, i1, i2 with
    | 0, _, _ => simpa using e0
    | 1, _, _ => simpa using e1
/-- A result that holds no memory. -/
theorem ret_leaf {w' : World} {v : Value} {x : V S} (hnew : ∀ b, w.heap.size ≤ b → σ b = 0) (hb : Below w.heap.size w w') (h : RepV C.E (gh0 σ) w' v x) :
    ∃ u σ', Ending.returned v = Ending.returned u ∧ Below w.heap.size w w' ∧ (∀ b, b < w.heap.size → σ' b = σ b) ∧ (∀ b, w'.heap.size ≤ b → σ' b = 0) ∧ RepV C.E (gh0 σ') w' u x :=
  ⟨v, σ, rfl, hb, fun _ _ => rfl, fun b q => hnew b (Nat.le_trans hb.size q), h⟩
theorem below_drewN (n : Nat) : Below w.heap.size w (w.drewN n) := ⟨rfl, rfl, rfl, Nat.le_refl _, fun _ _ => rfl⟩
theorem below_growN (q : Nat) (os : Array Obj) : Below w.heap.size w (Go.Sort.grow (w.drewN q) os) :=
  ⟨rfl, rfl, rfl, by simp [Go.Sort.grow, World.drewN], fun i hi => by
    show ((w.drewN q).heap ++ os)[i]? = _
    rw [Array.getElem?_append_left (by show i < w.heap.size; omega)]
    rfl⟩
theorem tup2 {K : Gh} {w' : World} {a b : Value} {x y : V S} (h1 : RepV C.E K w' a x) (h2 : RepV C.E K w' b y) : RepV C.E K w' (.tuple #[a, b]) (.tup [x, y]) :=
  .tup _ _ rfl fun j c v hc hv => by
    match j, hc, hv with
    | 0, hc, hv => simp at hc hv; subst hc hv; exact h1
    | 1, hc, hv => simp at hc hv; subst hc hv; exact h2
    | j + 2, hc, hv => simp at hv
theorem tup3 {K : Gh} {w' : World} {a b d : Value} {x y z : V S} (h1 : RepV C.E K w' a x) (h2 : RepV C.E K w' b y) (h3 : RepV C.E K w' d z) : RepV C.E K w' (.tuple #[a, b, d]) (.tup [x, y, z]) :=
  .tup _ _ rfl fun j c v hc hv => by
    match j, hc, hv with
    | 0, hc, hv => simp at hc hv; subst hc hv; exact h1
    | 1, hc, hv => simp at hc hv; subst hc hv; exact h2
    | 2, hc, hv => simp at hc hv; subst hc hv; exact h3
    | j + 3, hc, hv => simp at hv
end

def spItoa : Spec S := { args := [.int .i64], R := List UInt8, run := run1 (.int .i64) strconv_Itoa, enc := enc1 .str }
theorem ok_Itoa {C : Ctx S} {ρ : Ren} (L : LaysM.n171 C.P ρ) (he : Enters C.P (ρ.f 171)) {g : Nat} (hg : C.P.globalNamed "internal/strconv.uint64pow10" = some g) (hG : C.G g = some (intCells .u64 Lib.pow10Tab)) : SpecOK C (ρ.f 171) spItoa := by
  refine ⟨he, fun σ w vs cs r hglob hnew hargs hrun => ?_⟩
  obtain ⟨n, rfl, h⟩ := inv1 hrun
  unfold strconv_Itoa at h
  split at h
  · rename_i hb
    cases h
    obtain ⟨t, f, hh⟩ := glob_ints hglob hG
    have hv := arr1 hargs.1 (arg_int hargs rfl)
    subst hv
    refine (Any.strconv_Itoa L n hb.1 hb.2 w (by unfold Lib.TabIs; simp [World.var?, hg, hh])).mono ?_
    rintro e w' ⟨rfl, k, os, rfl⟩
    exact ret_leaf hnew (below_growN k os) (.cell (.str _))
  · cases h

def spAtoi : Spec S := { args := [.str], R := Int × Bool, run := run1 .str strconv_Atoi, enc := enc2 (.int .i64) .err }
theorem ok_Atoi {C : Ctx S} {ρ : Ren} (L : LaysC.n172 C.P ρ) (he : Enters C.P (ρ.f 172)) (h15 : C.G (ρ.g 15) = some [V.cell .err true]) (h16 : C.G (ρ.g 16) = some [V.cell .err true]) : SpecOK C (ρ.f 172) spAtoi := by
  refine ⟨he, fun σ w vs cs r hglob hnew hargs hrun => ?_⟩
  obtain ⟨s, rfl, h⟩ := inv1 hrun
  have hv := arr1 hargs.1 (arg_str hargs rfl)
  subst hv
  unfold strconv_Atoi at h
  split at h
  · rename_i hb
    have hsz := szB s
    cases ha : Lib.atoiAll s with
    | ok v =>
      rw [ha] at h
      cases h
      refine (Any.strconv_Atoi_ok L ⟨s.toArray⟩ (by rw [hsz]; omega) v ha w).mono ?_
      rintro e w' ⟨rfl, hw⟩
      have hbl : Below w.heap.size w w' := by
        rcases hw with rfl | ⟨t, rfl⟩
        · exact Below.refl _ _
        · exact Lib.bytesWorld_below _ _ _
      exact ret_leaf hnew hbl (tup2 (.cell (.int _ _)) (.cell .errNil))
    | range =>
      rw [ha] at h
      cases h
      obtain ⟨te, pe, hc⟩ := glob_err hglob h16
      refine (Any.strconv_Atoi_range L ⟨s.toArray⟩ (by rw [hsz]; exact hb) ha _ w hc (.inr ⟨te, pe, rfl⟩)).mono ?_
      rintro e w' ⟨N, rfl, _, _, hbl⟩
      exact ret_leaf hnew hbl (tup2 (.cell (.int _ _)) (.cell (.err _ _)))
    | _ =>
      rw [ha] at h
      cases h
      obtain ⟨te, pe, hc⟩ := glob_err hglob h15
      refine (Any.strconv_Atoi_syntax L ⟨s.toArray⟩ (by rw [hsz]; exact hb) ha _ w hc (.inr ⟨te, pe, rfl⟩)).mono ?_
      rintro e w' ⟨N, rfl, _, _, hbl⟩
      exact ret_leaf hnew hbl (tup2 (.cell (.int _ _)) (.cell (.err _ _)))
  · cases h
theorem Cut_inner {P : Program} {ρ : Ren} (L : Lays.n220 P ρ) (s : ByteArray) (c : UInt8) (w : World) (hs : s.size < 4294967281) :
    Calls P (ρ.f 220) #[.string s, .string ⟨#[c]⟩] w fun e w' => e = .returned (.tuple #[.string ⟨(Lib.cut s.data.toList [c]).1.toArray⟩, .string ⟨(Lib.cut s.data.toList [c]).2.1.toArray⟩, .bool (Lib.cut s.data.toList [c]).2.2]) ∧ ∃ n, w' = w.drewN n := by
  have hI : ∀ w, Calls P (ρ.f 219) #[.string s, .string ⟨#[c]⟩] w fun e w' => e = .returned (.int .i64 (Lib.indexB s ⟨#[c]⟩)) ∧ w' = w := fun w => by
    have := Any.stringslite_Index_one { L with } s c w
    rwa [← Lib.index_one] at this
  have e219 : ∀ args w, (callFunc (ρ.f 219) args).run P w = .ok (.enter (ρ.f 219) args) w := enters_of L.f219 (by kernel_rfl) rfl
  have t3 := L.t3; have t4 := L.t4; have t9 := L.t9
  have a3 : ∀ w, (isAgg (ρ.t 3)).run P w = .ok false w := run_isAgg_plain L.t3 rfl
  have a4 : ∀ w, (isAgg (ρ.t 4)).run P w = .ok false w := run_isAgg_plain L.t4 rfl
  have a9 : ∀ w, (isAgg (ρ.t 9)).run P w = .ok false w := run_isAgg_plain L.t9 rfl
  have mixed := L.mixed; have z3 := L.z3; have v3 := L.v3; have z4 := L.z4; have v4 := L.v4; have z9 := L.z9; have v9 := L.v9
  rcases Lib.indexB_cases s ⟨#[c]⟩ with hix | ⟨i, hix, hroom⟩
  · obtain ⟨e1, e2, e3⟩ := Lib.cutB_miss s ⟨#[c]⟩ hix
    have e1 : (⟨(Lib.cut s.data.toList [c]).1.toArray⟩ : ByteArray) = _ := e1
    have e2 : (⟨(Lib.cut s.data.toList [c]).2.1.toArray⟩ : ByteArray) = _ := e2
    have e3 : (Lib.cut s.data.toList [c]).2.2 = _ := e3
    rw [e1, e2, e3]
    rw [hix] at hI
    go_enter L.f220, Body.n220_ntmps ρ
    go_wp2_with (go_at_fn (ρ.f 219); refine (hI _).mono ?_; rintro e w' ⟨rfl, rfl⟩)
    go_ret3
    exact ⟨rfl, 0, rfl⟩
  · obtain ⟨e1, e2, e3⟩ := Lib.cutB_hit s ⟨#[c]⟩ i hix
    have e1 : (⟨(Lib.cut s.data.toList [c]).1.toArray⟩ : ByteArray) = _ := e1
    have e2 : (⟨(Lib.cut s.data.toList [c]).2.1.toArray⟩ : ByteArray) = _ := e2
    have e3 : (Lib.cut s.data.toList [c]).2.2 = _ := e3
    rw [e1, e2, e3]
    rw [hix] at hI
    have hone : (⟨#[c]⟩ : ByteArray).size = 1 := rfl
    rw [hone] at hroom ⊢
    have c1 : (0 : Int) ≤ ↑i := by omega
    have c2 : (↑i : Int) ≤ ↑s.size := by omega
    have c3 : (0 : Int) ≤ ↑i + 1 := by omega
    have c4 : (↑i + 1 : Int) ≤ ↑s.size := by omega
    go_enter L.f220, Body.n220_ntmps ρ
    go_wp2_with (go_at_fn (ρ.f 219); refine (hI _).mono ?_; rintro e w' ⟨rfl, rfl⟩)
    go_region_o
    go_wp2
    go_ret3
    exact ⟨rfl, 1, rfl⟩
theorem Cut_one {P : Program} {ρ : Ren} (L : Lays.n145 P ρ) (s : ByteArray) (c : UInt8) (w : World) (hs : s.size < 4294967281) :
    Calls P (ρ.f 145) #[.string s, .string ⟨#[c]⟩] w fun e w' => e = .returned (.tuple #[.string ⟨(Lib.cut s.data.toList [c]).1.toArray⟩, .string ⟨(Lib.cut s.data.toList [c]).2.1.toArray⟩, .bool (Lib.cut s.data.toList [c]).2.2]) ∧ ∃ n, w' = w.drewN n := by
  have t4 := L.t4; have t9 := L.t9; have t59 := L.t59
  have a4 : ∀ w, (isAgg (ρ.t 4)).run P w = .ok false w := run_isAgg_plain L.t4 rfl
  have a9 : ∀ w, (isAgg (ρ.t 9)).run P w = .ok false w := run_isAgg_plain L.t9 rfl
  have a59 : ∀ w, (isAgg (ρ.t 59)).run P w = .ok false w := run_isAgg_plain L.t59 rfl
  have e220 : ∀ args w, (callFunc (ρ.f 220) args).run P w = .ok (.enter (ρ.f 220) args) w := enters_of L.f220 (by kernel_rfl) rfl
  have mixed := L.mixed; have z4 := L.z4; have v4 := L.v4; have z9 := L.z9; have v9 := L.v9; have z59 := L.z59; have v59 := L.v59
  go_enter L.f145, Body.n145_ntmps ρ
  go_wp2_with (go_at_fn (ρ.f 220); refine (Cut_inner { L with } _ _ _ hs).mono ?_; rintro e w' ⟨rfl, n, rfl⟩)
  go_ret3
  exact ⟨rfl, n, rfl⟩
theorem Split_one {P : Program} {ρ : Ren} (L : Lays.n146 P ρ) (hi9 : (P.info? (ρ.t 9)).map (fun i => (i.zero, i.size, i.bytes)) = some (some (.string ByteArray.empty), 1, 16)) (s : ByteArray) (c : UInt8) (w : World) (hs : s.size < 4294967281) :
    Calls P (ρ.f 146) #[.string s, .string ⟨#[c]⟩] w fun e w' =>
      e = .returned (.slice (some ⟨w.heap.size, 0, none⟩) (Lib.countB s ⟨#[c]⟩ + 1) (Lib.countB s ⟨#[c]⟩ + 1)) ∧ w' = w.alloc (.cells ((Lib.splitB ⟨#[c]⟩ 0 (Lib.countB s ⟨#[c]⟩) s).map Value.string).toArray (ρ.t 9)) := by
  have h1 : 1 ≤ (⟨#[c]⟩ : ByteArray).size := Nat.le_refl _
  have hle := Lib.countB_le ⟨#[c]⟩ h1 s.size s (Nat.le_refl _)
  have hlen := Lib.splitB_all ⟨#[c]⟩ h1 0 _ s rfl
  have hI : ∀ (x : ByteArray) (w : World), Calls P (ρ.f 143) #[.string x, .string ⟨#[c]⟩] w fun e w' => e = .returned (.int .i64 (Lib.indexB x ⟨#[c]⟩)) ∧ w' = w := fun x w => by
    have := Any.strings_Index_one { L with } x c w
    rwa [← Lib.index_one] at this
  have hC : Calls P (ρ.f 138) #[.string s, .string ⟨#[c]⟩] w fun e w' => e = .returned (.int .i64 (Lib.countB s ⟨#[c]⟩)) ∧ w' = w := by
    refine (Any.strings_Count_one { L with } s c w).mono fun e w' ⟨he, hw⟩ => ⟨?_, hw⟩
    rw [he]
    show _ = Ending.returned (Value.int .i64 ((Lib.count s.data.toList [c] : Nat) : Int))
    rw [Lib.count_one]
    rfl
  have k := Any.strings_genSplit_core { L with } hi9 s ⟨#[c]⟩ 0 (-1) (Lib.countB s ⟨#[c]⟩ + 1) w hs h1 (Nat.zero_le _) (fun x cs hx => hI x _) hC (by decide) (by decide) (by rw [if_pos (by decide)]; omega)
  rw [Nat.add_sub_cancel, hlen] at k
  have e2 : Lib.cellsOf (Lib.splitB ⟨#[c]⟩ 0 (Lib.countB s ⟨#[c]⟩) s) (Lib.countB s ⟨#[c]⟩ + 1) = ((Lib.splitB ⟨#[c]⟩ 0 (Lib.countB s ⟨#[c]⟩) s).map Value.string).toArray := by rw [← hlen]; exact Lib.cellsOf_full _
  rw [e2] at k
  have t3 := L.t3; have t9 := L.t9; have t31 := L.t31
  have a3 := L.a3; have a9 := L.a9; have a31 := L.a31
  have z3 := L.z3; have v3 := L.v3; have z9 := L.z9; have v9 := L.v9; have z31 := L.z31; have v31 := L.v31
  have e221 : ∀ args w, (callFunc (ρ.f 221) args).run P w = .ok (.enter (ρ.f 221) args) w := enters_of L.f221 (by kernel_rfl) rfl
  go_enter L.f146, Body.n146_ntmps ρ
  go_wp2_with (go_at_fn (ρ.f 221); refine k.mono ?_; rintro e w' ⟨rfl, hw⟩; rw [hw])
  go_ret
  exact ⟨rfl, rfl⟩

theorem Cut_list {P : Program} {ρ : Ren} (L : Lays.n145 P ρ) (s : List UInt8) (c : UInt8) (w : World) (hs : s.length < 4294967281) :
    Calls P (ρ.f 145) #[.string ⟨s.toArray⟩, .string ⟨[c].toArray⟩] w fun e w' => e = .returned (.tuple #[.string ⟨(Lib.cut s [c]).1.toArray⟩, .string ⟨(Lib.cut s [c]).2.1.toArray⟩, .bool (Lib.cut s [c]).2.2]) ∧ ∃ n, w' = w.drewN n :=
  Cut_one L ⟨s.toArray⟩ c w (by rw [szB]; exact hs)
theorem Split_list {P : Program} {ρ : Ren} (L : Lays.n146 P ρ) (hi9 : (P.info? (ρ.t 9)).map (fun i => (i.zero, i.size, i.bytes)) = some (some (.string ByteArray.empty), 1, 16)) (s : List UInt8) (c : UInt8) (w : World) (hs : s.length < 4294967281) :
    Calls P (ρ.f 146) #[.string ⟨s.toArray⟩, .string ⟨[c].toArray⟩] w fun e w' => ∃ cap cs, e = .returned (.slice (some ⟨w.heap.size, 0, none⟩) (Lib.split s [c]).length cap) ∧ (Lib.split s [c]).length ≤ cap ∧ w' = w.alloc (.cells cs (ρ.t 9)) ∧ ∀ (i : Nat) (x : List UInt8), (Lib.split s [c])[i]? = some x → cs[i]? = some (.string ⟨x.toArray⟩) := by
  refine (Split_one L hi9 ⟨s.toArray⟩ c w (by rw [szB]; exact hs)).mono ?_
  rintro e w' ⟨rfl, rfl⟩
  have hd := Lib.splitB_data ⟨#[c]⟩ 0 (Lib.countB ⟨s.toArray⟩ ⟨#[c]⟩) ⟨s.toArray⟩
  have hlen := Lib.splitB_all ⟨#[c]⟩ (Nat.le_refl 1) 0 _ (⟨s.toArray⟩ : ByteArray) rfl
  have hd' : (Lib.splitB ⟨#[c]⟩ 0 (Lib.countB ⟨s.toArray⟩ ⟨#[c]⟩) ⟨s.toArray⟩).map (·.data.toList) = Lib.split s [c] := hd
  generalize Lib.splitB ⟨#[c]⟩ 0 (Lib.countB ⟨s.toArray⟩ ⟨#[c]⟩) ⟨s.toArray⟩ = bs at hd' hlen ⊢
  generalize Lib.countB ⟨s.toArray⟩ ⟨#[c]⟩ = n at hlen ⊢
  have hl2 : (Lib.split s [c]).length = n + 1 := by rw [← hd', List.length_map, hlen]
  refine ⟨n + 1, _, by rw [hl2], by omega, rfl, fun i x hi => ?_⟩
  rw [← hd', List.getElem?_map] at hi
  cases hb2 : bs[i]? with
  | none => rw [hb2] at hi; cases hi
  | some b =>
    rw [hb2] at hi
    cases hi
    simp [hb2]
theorem rep_strs {E : Env S} {σ : Nat → Nat} {w : World} (l : List (List UInt8)) (b off cap : Nat) (hcap : l.length ≤ cap) (hst : off + l.length ≤ σ b) (hc : ∀ (i : Nat) (x : List UInt8), l[i]? = some x → w.cell? ⟨b, off + i, none⟩ = some (.string ⟨x.toArray⟩)) :
    Rep E σ w (.slice (some ⟨b, off, none⟩) l.length cap) (.slice .str) l := by
  refine Rep.slice (S := S) .str l b off cap (fun j => .string ⟨(l.getD j []).toArray⟩) hcap (by show off + l.length * 1 ≤ σ b; omega) (fun j hj => ?_) (fun i x hi j cl hj => ?_)
  · have hj' : j < l.length := by have h3 : j < l.length * 1 := hj; omega
    rw [hc j l[j] (by simp [hj'])]
    simp [List.getD, hj']
  · have hj2 : ([⟨.str, x⟩] : List (Cell S))[j]? = some cl := hj
    cases j with
    | succ j => simp at hj2
    | zero =>
      simp only [List.getElem?_cons_zero, Option.some.injEq] at hj2
      subst hj2
      show Rep E σ w (.string ⟨(l.getD (i * 1 + 0) []).toArray⟩) .str x
      have hi2 : l[i]? = some (x : List UInt8) := hi
      have : l.getD (i * 1 + 0) [] = x := by
        rw [Nat.mul_one, Nat.add_zero, List.getD, hi2]; rfl
      rw [this]
      exact .str x
theorem strs_rep {E : Env S} {σ : Nat → Nat} {w : World} {v : Value} {l : List (List UInt8)} (h : Rep E σ w v (.slice .str) l) : (∃ a cap, v = .slice a 0 cap ∧ l = []) ∨
    ∃ b off cap, v = .slice (some ⟨b, off, none⟩) l.length cap ∧ l.length ≤ cap ∧ ∀ (i : Nat) (x : List UInt8), l[i]? = some x → w.cell? ⟨b, off + i, none⟩ = some (.string ⟨x.toArray⟩) := by
  cases h with
  | nil _ a cap => exact .inl ⟨a, cap, rfl, rfl⟩
  | slice _ _ b off cap f hcap hst hc hr =>
    refine .inr ⟨b, off, cap, rfl, hcap, fun i x hi => ?_⟩
    have hil : i < l.length := (List.getElem?_eq_some_iff.1 hi).1
    have e1 := hc i (by show i < l.length * 1; omega)
    have e2 := hr i x hi 0 ⟨.str, x⟩ rfl
    have e3 : Rep E σ w (f (i * 1 + 0)) .str x := e2
    rw [Nat.mul_one, Nat.add_zero] at e3
    rw [e1]
    exact congrArg some e3.str_inv
theorem Join_list {P : Program} {ρ : Ren} (L : Lays.n156 P ρ) (X : Builder.Extra P ρ) (l : List (List UInt8)) (sep : List UInt8) (w : World) (b off cap : Nat) (hcap : l.length ≤ cap) (hc : ∀ (i : Nat) (x : List UInt8), l[i]? = some x → w.cell? ⟨b, off + i, none⟩ = some (.string ⟨x.toArray⟩))
    (h1 : l.length ≤ 140737488355328) (h2 : (Lib.join l sep).length ≤ 140737488355328) :
    Calls P (ρ.f 156) #[.slice (some ⟨b, off, none⟩) l.length cap, .string ⟨sep.toArray⟩] w fun e w' => e = .returned (.string ⟨(Lib.join l sep).toArray⟩) ∧ Below w.heap.size w w' := by
  by_cases hl : l.length = 0
  · have : l = [] := List.eq_nil_of_length_eq_zero hl
    subst this
    exact (Any.strings_Join_none L X _ cap ⟨sep.toArray⟩ w).mono fun e w' ⟨he, hw⟩ => ⟨he, hw ▸ Below.refl _ _⟩
  · have hbk : b < w.heap.size := by
      have := hc 0 _ (List.getElem?_eq_getElem (Nat.pos_of_ne_zero hl))
      exact World.block_lt_of_cell? _ _ this
    let xs : List ByteArray := l.map (fun s => (⟨s.toArray⟩ : ByteArray))
    have hxl : xs.length = l.length := List.length_map ..
    have hxd : xs.map (·.data.toList) = l := by
      simp only [xs, List.map_map]
      exact List.map_id' l
    have k := Any.strings_Join L X b off cap xs ⟨sep.toArray⟩ w (fun j x hj => by
      simp only [xs, List.getElem?_map] at hj
      cases hlj : l[j]? with
      | none => rw [hlj] at hj; cases hj
      | some y => rw [hlj] at hj; cases hj; exact hc j y hlj) hbk (by rw [hxl]; exact h1) (by rw [hxl]; exact hcap) (by rw [hxd]; exact h2)
    rw [hxl, hxd] at k
    exact k

def spCut : Spec S := { args := [.str, .str], R := List UInt8 × List UInt8 × Bool, run := run2 .str .str strings_Cut, enc := enc3 .str .str .bool }
theorem ok_Cut {C : Ctx S} {ρ : Ren} (L : Lays.n145 C.P ρ) (he : Enters C.P (ρ.f 145)) : SpecOK C (ρ.f 145) spCut := by
  refine ⟨he, fun σ w vs cs r hglob hnew hargs hrun => ?_⟩
  obtain ⟨s, sep, rfl, h⟩ := inv2 hrun
  have hv := arr2 hargs.1 (arg_str hargs rfl) (arg_str hargs rfl)
  subst hv
  unfold strings_Cut at h
  split at h
  · rename_i hb
    cases h
    have hc : ∃ c, sep = [c] := List.length_eq_one_iff.1 hb.2
    obtain ⟨c, rfl⟩ := hc
    refine (Cut_list L s c w hb.1).mono ?_
    rintro e w' ⟨rfl, n, rfl⟩
    exact ret_leaf hnew (below_drewN n) (tup3 (.cell (.str _)) (.cell (.str _)) (.cell (.bool _)))
  · cases h

def spSplit : Spec S := { args := [.str, .str], R := List (List UInt8), run := run2 .str .str strings_Split, enc := enc1 (.slice .str) }
theorem ok_Split {C : Ctx S} {ρ : Ren} (L : Lays.n146 C.P ρ) (he : Enters C.P (ρ.f 146)) (hi9 : (C.P.info? (ρ.t 9)).map (fun i => (i.zero, i.size, i.bytes)) = some (some (.string ByteArray.empty), 1, 16)) : SpecOK C (ρ.f 146) spSplit := by
  refine ⟨he, fun σ w vs cs r hglob hnew hargs hrun => ?_⟩
  obtain ⟨s, sep, rfl, h⟩ := inv2 hrun
  have hv := arr2 hargs.1 (arg_str hargs rfl) (arg_str hargs rfl)
  subst hv
  unfold strings_Split at h
  split at h
  · rename_i hb
    cases h
    have hc : ∃ c, sep = [c] := List.length_eq_one_iff.1 hb.2
    obtain ⟨c, rfl⟩ := hc
    refine (Split_list L hi9 s c w hb.1).mono ?_
    rintro e w' ⟨cap, cs, rfl, hcap, rfl, hcs⟩
    refine ⟨_, fun b => if b = w.heap.size then (Lib.split s [c]).length else σ b, rfl, (Below.refl _ w).alloc (Nat.le_refl _) _, fun b hb => by simp only; rw [if_neg (by omega)], fun b hb => ?_, ?_⟩
    · simp only [World.size_alloc] at hb
      simp only; rw [if_neg (by omega)]; exact hnew b (by omega)
    · exact .cell (rep_strs (Lib.split s [c]) w.heap.size 0 cap hcap (by show 0 + (Lib.split s [c]).length ≤ (if w.heap.size = w.heap.size then (Lib.split s [c]).length else σ w.heap.size); rw [if_pos rfl]; omega) fun i x hi => by
        rw [Nat.zero_add, World.cell?_alloc_new]; exact hcs i x hi)
  · cases h

def spJoin : Spec S := { args := [.slice .str, .str], R := List UInt8, run := run2 (.slice .str) .str strings_Join, enc := enc1 .str }
theorem ok_Join {C : Ctx S} {ρ : Ren} (L : Lays.n156 C.P ρ) (X : Builder.Extra C.P ρ) (he : Enters C.P (ρ.f 156)) : SpecOK C (ρ.f 156) spJoin := by
  refine ⟨he, fun σ w vs cs r hglob hnew hargs hrun => ?_⟩
  obtain ⟨l, sep, rfl, h⟩ := inv2 hrun
  have h0 : 0 < vs.size := by rw [hargs.1]; exact Nat.zero_lt_succ _
  have hr1 : Rep C.E σ w vs[0] (.slice .str) l := cell_inv (hargs.2 0 vs[0] _ (by simp [h0]) rfl)
  have hv := arr2 hargs.1 (Array.getElem?_eq_getElem h0) (arg_str hargs rfl)
  generalize vs[0] = v0 at hv hr1
  subst hv
  unfold strings_Join at h
  split at h
  · rename_i hb
    cases h
    rcases strs_rep hr1 with ⟨a, cap, rfl, rfl⟩ | ⟨b, off, cap, rfl, hcap, hc⟩
    · refine (Any.strings_Join_none L X a cap ⟨List.toArray sep⟩ w).mono ?_
      rintro e w' ⟨rfl, rfl⟩
      exact ret_leaf hnew (Below.refl _ _) (.cell (.str _))
    · refine (Join_list L X l sep w b off cap hcap hc hb.1 hb.2).mono ?_
      rintro e w' ⟨rfl, hbl⟩
      exact ret_leaf hnew hbl (.cell (.str _))
  · cases h
end Go.Lv
