import Derived.Test.YtonphdpgepnenaaDoorLvHead
namespace Go.Lv
set_option linter.all false
open Go Go.RowKit
variable {S : Nat → Type}

/-- The loops of a body, each with what comes behind it. -/
def loopsOf : Code → List Item → List (List Item)
  | .seq a b, k => loopsOf a (.code b :: k) ++ loopsOf b k
  | .cond _ x y, k => loopsOf x k ++ loopsOf y k
  | .block id b, k => loopsOf b (.inBlock id :: k)
  | .scope b, k => loopsOf b (.inScope b :: k)
  | .loop b, k => (.inLoop b :: k) :: loopsOf b (.inLoop b :: k)
  | _, _ => []

section
variable (C : Ctx S) (cl : Cl S) {R : Type}
def todoOf (f : FuncId) (i : Nat) : List Item := match body? C f with
  | some (_, b) => (loopsOf b []).getD i []
  | none => []
def finW (f : FuncId) (ts : List Ty) (de : List (Cell S) → Option R) : St S → D R := match body? C f with
  | some (fn, _) => finR C fn ts de
  | none => fun _ => .fail
def roundT (hd : List Item → St S → Option (St S)) (fin : St S → D R) (L : Lp S R) (s : St S) : List Item → D R
  | .inLoop c :: k => ex C cl (canonL hd L) fin fuel (.code c :: .inLoop c :: k) s
  | _ => .fail
def roundW (hd : List Item → St S → Option (St S)) (f : FuncId) (i : Nat) (ts : List Ty) (de : List (Cell S) → Option R) (L : Lp S R) (s : St S) : D R :=
  roundT C cl hd (finW C f ts de) L s (todoOf C f i)
theorem Lfix_round (hd : List Item → St S → Option (St S)) (f : FuncId) (i : Nat) (ts : List Ty) (de : List (Cell S) → Option R) (n : Nat) (s : St S) :
    Lfix C cl hd (finW C f ts de) (n + 1) (todoOf C f i) s = roundW C cl hd f i ts de (Lfix C cl hd (finW C f ts de) n) s := by
  unfold roundW
  generalize todoOf C f i = t
  cases t with
  | nil => rfl
  | cons x k => cases x <;> rfl
theorem runF_eq (hd : List Item → St S → Option (St S)) (f : FuncId) (ts : List Ty) (de : List (Cell S) → Option R) (n : Nat) (args : List (V S)) :
    runF C cl hd f ts de n args = runW C cl (fun _ => canonL hd (Lfix C cl hd (finW C f ts de) n)) f ts de args := by
  unfold runF runW finW
  cases body? C f with
  | none => rfl
  | some p => rfl

def AllOK : List (Nat × Spec S) → Prop
  | [] => True
  | p :: r => SpecOK C p.1 p.2 ∧ AllOK r
end
theorem AllOK.mem {C : Ctx S} : ∀ {l : List (Nat × Spec S)}, AllOK C l → ∀ p, p ∈ l → SpecOK C p.1 p.2
  | [], _, p, h => by cases h
  | q :: r, h, p, hp => by
    rcases List.mem_cons.1 hp with rfl | hp
    · exact h.1
    · exact AllOK.mem h.2 p hp
theorem specs_ok {C : Ctx S} {l : List (Nat × Spec S)} (hl : C.spec = spL l) (h : AllOK C l) : ∀ f sp, C.spec f = some sp → SpecOK C f sp := by
  intro f sp hf
  rw [hl] at hf
  exact h.mem _ (spL_mem hf)
theorem inl_ok {C : Ctx S} {l : List Nat} (hl : C.inl = inL l) (h : l.all (fnOk C) = true) : ∀ f, C.inl f = true → fnOk C f = true := by
  intro f hf
  rw [hl] at hf
  exact (List.all_eq_true.1 h) f (inL_mem hf)
/-- How many rounds a loop is let. -/
def big : Nat := 4611686018427387904

theorem run0_ev {C : Ctx S} {cl : Cl S} {R : Type} {hd : List Item → St S → Option (St S)} {f : FuncId} {ts : List Ty} {de : List (Cell S) → Option R} {F G : Option R} (hev : (runF C cl hd f ts de big []).opt = G) (hF : F = G) {cs : List (Cell S)} {r : R} (h : run0 F cs = some r) :
    ∃ n, (runF C cl hd f ts de n (cs.map fun c => encV C.E c.t c.x)).opt = some r := by
  obtain ⟨rfl, h⟩ := inv0 h
  exact ⟨big, hev.trans (hF.symm.trans h)⟩

def bit_and (k : IntKind) (a b : Int) : Int := k.wrap ((BitVec.ofInt k.bits a &&& BitVec.ofInt k.bits b).toNat : Nat)
def bit_or (k : IntKind) (a b : Int) : Int := k.wrap ((BitVec.ofInt k.bits a ||| BitVec.ofInt k.bits b).toNat : Nat)
def bit_xor (k : IntKind) (a b : Int) : Int := k.wrap ((BitVec.ofInt k.bits a ^^^ BitVec.ofInt k.bits b).toNat : Nat)
def bit_andNot (k : IntKind) (a b : Int) : Int := k.wrap ((BitVec.ofInt k.bits a &&& ~~~ BitVec.ofInt k.bits b).toNat : Nat)
end Go.Lv
