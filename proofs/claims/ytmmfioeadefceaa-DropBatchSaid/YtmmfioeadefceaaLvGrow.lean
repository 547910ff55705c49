import Derived.Test.YtmmfioeadefceaaLvForce
import Derived.Shelf.Spec.SlicesGrow
namespace Go.Lv
set_option linter.all false
open Go Go.RowKit Go.Proofs
variable {S : Nat → Type}
/-- slices.Grow of the nil slice: an own array of nothing. -/
def growCl (g : FuncId) (e : TypeId) (T : Ty) : Cl S := fun f args m => bif Nat.beq f g then (match args with
  | [.nilS, .cell (.int .i64) n] => .split (okLen n) (.ret (.own m.length 0, m ++ [.arr e T [] 0 false])) .fail
  | _ => .fail) else .fail
theorem growCl_ok {C : Ctx S} (hE : EnvOK C.E) (hT : TyOK C) {g : FuncId} {e : TypeId} {T : Ty} (hi : C.inl = inL [g]) (hen : Enters C.P g) (hty : C.ty e = some T)
    (room : ∀ (a : Option Addr) (w : World), Calls C.P g #[.slice a 0 0, .int .i64 0] w fun x w' => x = .returned (.slice a 0 0) ∧ w' = w)
    (grow : ∀ (i0 : TypeInfo) (z : Value), C.P.info? e = some i0 → i0.zero = some z → 0 < i0.size → ∀ (a : Option Addr) (n : Nat) (w : World), 0 < n → n * i0.bytes ≤ 140737488355328 → n ≤ 4611686018427387904 →
      Calls C.P g #[.slice a 0 0, .int .i64 n] w fun x w' => x = .returned (.slice (some ⟨w.heap.size, 0, none⟩) 0 (grownCap w n 0 e)) ∧ w' = w.drew.alloc (.cells (Builtin.zeroCells z.cells n ++ Builtin.zeroCells z.cells (grownCap w n 0 e - n)) e)) : ClOK C (growCl g e T) := by
  intro f hf
  rw [hi] at hf
  have hfg : f = g := by simpa using inL_mem hf
  subst hfg
  refine ⟨hen, fun K w B m args vs x m' hm hl hr h => ?_⟩
  unfold growCl at h
  have hb : Nat.beq f f = true := Nat.beq_refl f
  rw [hb] at h
  simp only [cond_true] at h
  split at h
  · rename_i n0
    have ex : ∃ n : Int, n0 = n := ⟨n0, rfl⟩
    obtain ⟨n, e0⟩ := ex
    rw [e0] at h hr hl
    simp only [D.opt] at h
    cases ho : okLen n with
    | false => rw [ho] at h; cases h
    | true =>
      rw [ho] at h
      simp only [cond_true, Option.some.injEq, Prod.mk.injEq] at h
      obtain ⟨rfl, rfl⟩ := h
      have ho' : 0 ≤ n ∧ n ≤ (maxList : Int) := by simpa [okLen] using ho
      obtain ⟨v0, v1, rfl⟩ : ∃ v0 v1, vs = #[v0, v1] := by
        obtain ⟨l⟩ := vs
        match l, hl with
        | [a, b], _ => exact ⟨a, b, rfl⟩
      have r0 := hr 0 v0 .nilS rfl rfl
      have r1 := hr 1 v1 (.cell (.int .i64) n) rfl rfl
      cases r0 with
      | nilS a =>
        cases r1 with
        | cell r1 =>
          cases r1
          obtain ⟨i, z, hi0, hsz, hz, hzs, hpos, hby⟩ := hT e T hty
          obtain ⟨k, rfl⟩ : ∃ k : Nat, n = k := ⟨n.toNat, by omega⟩
          by_cases hk : k = 0
          · subst hk
            obtain ⟨K', k1, k2, k3⟩ := newNil (C := C) hm e T a
            refine (room a w).mono ?_
            rintro x w' ⟨rfl, rfl⟩
            exact ⟨_, K', rfl, k1, Below.refl B _, k2, k3⟩
          · have hmax : k ≤ maxList := by omega
            have hm2 : k ≤ maxLen := by simp only [maxList] at hmax; simp only [maxLen]; omega
            have hbytes : k * i.bytes ≤ 140737488355328 := by
              simp only [maxList] at hmax
              calc k * i.bytes ≤ 137438953472 * 1024 := Nat.mul_le_mul hmax hby
                _ = 140737488355328 := by decide
            refine (grow i z hi0 hz hpos a k w (by omega) hbytes (by simp only [maxList] at hmax; omega)).mono ?_
            rintro x w' ⟨rfl, rfl⟩
            have g1 : k ≤ grownCap w k 0 e := grownCap_ge w _ _ _
            have g2 : grownCap w k 0 e ≤ maxLen := grownCap_le_maxLen w _ _ _ hm2
            have hzT : z.cells.size = tsize C.E T := by rw [hzs, hsz]
            obtain ⟨K', k1, k2, k3, k4⟩ := newArr hE hm (e := e) (T := T) (l := []) (c := Builtin.zeroCells z.cells k ++ Builtin.zeroCells z.cells (grownCap w k 0 e - k)) (cap := grownCap w k 0 e) (Nat.zero_le _) g2 (by
              rw [Array.size_append, size_zeroCells, size_zeroCells, hzT, ← Nat.add_mul]; congr 1; omega) (.inr rfl) (fun i x hi => by simp at hi)
            exact ⟨_, K', rfl, k1, k2, k3, k4⟩
  · simp [D.opt] at h
theorem growCl_lay {C : Ctx S} {ρ : Go.Shelf.Ren} (L : Lays8.n4 C.P ρ) (hE : EnvOK C.E) (hT : TyOK C) {g : FuncId} {e : TypeId} {T : Ty} (hi : C.inl = inL [g]) (hen : Enters C.P g) (hty : C.ty e = some T) (hg : ρ.f 4 = g) (he : ρ.t 25 = e) : ClOK C (growCl g e T) := by
  subst hg he
  refine growCl_ok hE hT hi hen hty (fun a w => Any8.slices_Grow_room L a 0 0 0 w (Nat.le_refl _) (by omega) (by omega) (by omega)) fun i0 z h1 h2 h3 a n w h4 h5 h6 => ?_
  have := Any8.slices_Grow_grow L i0 z h1 h2 h3 a 0 0 n [] w (Nat.le_refl _) (by omega) (by simpa using h5) (by omega) (by simp) (fun _ => rfl) (fun _ _ j v q => by simp at q)
  simpa using this
def entersB (P : Program) (f : FuncId) : Bool := match P.funcs[f]? with
  | some fn => !fn.body.isNone && !(fn.name == "runtime.NumGoroutine")
  | none => false
theorem enters_of {P : Program} {f : FuncId} (h : entersB P f = true) : Enters P f := by
  unfold entersB at h
  split at h
  · rename_i fn hfn
    simp only [Bool.and_eq_true, Bool.not_eq_true'] at h
    exact ⟨fn, hfn, h.1, h.2⟩
  · cases h
/-- A forced run over whatever is gone into. -/
theorem runWF_cl {C : Ctx S} {R : Type} (cl : Cl S) (L : (St S → D R) → Lp S R) (f : FuncId) (ts : List Ty) (de : List (Cell S) → Option R) (args : List (V S)) : runW C cl L f ts de args = runWF C cl L f ts de args := by
  unfold runWF runW
  cases body? C f with
  | none => rfl
  | some p => exact (fcT_eq _ _ (fun s => ex C cl (L (finR C p.1 ts de)) (finR C p.1 ts de) fuel [.code p.2] s) fun s h => exF_eq C _ _ _ _ _ s h).symm
theorem roundWF_cl {C : Ctx S} {R : Type} (cl : Cl S) (hd : List Item → St S → Option (St S)) (f : FuncId) (i : Nat) (ts : List Ty) (de : List (Cell S) → Option R) (L : Lp S R) (s : St S) : roundW C cl hd f i ts de L s = roundWF C cl hd f i ts de L s := by
  unfold roundWF roundW
  cases todoOf C f i with
  | nil => rfl
  | cons x k => cases x with
    | inLoop c => exact (fcT_eq _ _ (fun s => ex C cl (canonL hd L) (finW C f ts de) fuel (.code c :: .inLoop c :: k) s) fun s h => exF_eq C _ _ _ _ _ s h).symm
    | _ => rfl
end Go.Lv
