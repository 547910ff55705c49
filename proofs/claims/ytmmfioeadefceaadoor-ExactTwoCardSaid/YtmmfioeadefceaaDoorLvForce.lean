import Derived.Test.YtmmfioeadefceaaDoorLvLoop
namespace Go.Lv
set_option linter.all false
open Go Go.RowKit
variable {S : Nat → Type}

/-! Runs whose states are told afresh at each step: the same runs; the kernel takes them faster. -/
section
variable {β : Type 1}
def fcN (n : Nat) (k : Nat → β) : β := match n with
  | 0 => k 0
  | m + 1 => k (m + 1)
theorem fcN_eq (n : Nat) (k : Nat → β) : fcN n k = k n := by cases n <;> rfl
def fcC (v : V S) (k : V S → β) : β := match v with
  | .cell t x => k (.cell t x)
  | .full t l => k (.full t l)
  | .nilS => k .nilS
  | .agg cs => k (.agg cs)
  | .ptr id off => fcN id fun id => fcN off fun off => k (.ptr id off)
  | .own id g => fcN id fun id => fcN g fun g => k (.own id g)
  | .eptr id g i off => fcN id fun id => fcN g fun g => fcN off fun off => k (.eptr id g i off)
  | .ro cs => k (.ro cs)
  | .clo f a b => k (.clo f a b)
  | .tup vs => k (.tup vs)
  | .cmap es => k (.cmap es)
  | .mapr id => k (.mapr id)
  | .undef => k .undef
theorem fcC_eq (v : V S) (k : V S → β) : fcC v k = k v := by cases v <;> simp [fcC, fcN_eq]
def fcL : List (V S) → (List (V S) → β) → β
  | [], k => k []
  | v :: r, k => fcC v fun v => fcL r fun r => k (v :: r)
theorem fcL_eq : ∀ (l : List (V S)) (k : List (V S) → β), fcL l k = k l
  | [], k => rfl
  | v :: r, k => by simp only [fcL, fcC_eq, fcL_eq r]
def fcV (v : V S) (k : V S → β) : β := match v with
  | .agg cs => fcL cs fun cs => k (.agg cs)
  | .ro cs => fcL cs fun cs => k (.ro cs)
  | .clo f a b => fcL a fun a => fcL b fun b => k (.clo f a b)
  | .tup vs => fcL vs fun vs => k (.tup vs)
  | v => fcC v k
theorem fcV_eq (v : V S) (k : V S → β) : fcV v k = k v := by cases v <;> simp [fcV, fcC_eq, fcL_eq]
def fcO (o : Ob S) (k : Ob S → β) : β := match o with
  | .box cs fz => fcL cs fun cs => k (.box cs fz)
  | .arr e t l g fz => fcN g fun g => k (.arr e t l g fz)
  | .map a b l => k (.map a b l)
theorem fcO_eq (o : Ob S) (k : Ob S → β) : fcO o k = k o := by cases o <;> simp [fcO, fcN_eq, fcL_eq]
def fcM : Mem S → (Mem S → β) → β
  | [], k => k []
  | o :: r, k => fcO o fun o => fcM r fun r => k (o :: r)
theorem fcM_eq : ∀ (l : Mem S) (k : Mem S → β), fcM l k = k l
  | [], k => rfl
  | v :: r, k => by simp only [fcM, fcO_eq, fcM_eq r]
/-- A list with a place told anew. -/
def fcS : List (V S) → Nat → V S → (List (V S) → β) → β
  | [], _, _, k => k []
  | _ :: r, 0, v, k => k (v :: r)
  | x :: r, n + 1, v, k => fcS r n v fun r => k (x :: r)
theorem fcS_eq : ∀ (l : List (V S)) (n : Nat) (v : V S) (k : List (V S) → β), fcS l n v k = k (l.set n v)
  | [], _, _, k => by simp [fcS]
  | x :: r, 0, v, k => rfl
  | x :: r, n + 1, v, k => by simp only [fcS, fcS_eq r, List.set_cons_succ]
end

section
variable (C : Ctx S)
/-- Does it turn the memory? -/
def mutB (o : Oper) : Bool := match o.op with
  | .alloc _ => true
  | .box _ _ => true
  | .store _ _ _ => true
  | .call _ => true
  | .makeSlice _ _ _ => true
  | .buildSlice _ _ _ => true
  | .slice _ _ _ _ _ => true
  | _ => false
def putV (s : St S) (dst : Option Nat) (v : V S) (m : Mem S) (k : St S → D (St S)) : D (St S) := match dst with
  | some d => fcV v fun v => fcS s.tmps d v fun ts => k { tmps := ts, mem := m }
  | none => k { tmps := s.tmps, mem := m }
def putF (mu : Bool) (s : St S) (dst : Option Nat) (p : V S × Mem S) (k : St S → D (St S)) : D (St S) :=
  match p with
  | (v, m) => match mu with
    | true => fcM m fun m => putV s dst v m k
    | false => putV s dst v m k
theorem putF_eq (mu : Bool) (s : St S) (dst : Option Nat) (p : V S × Mem S) (k : St S → D (St S)) : putF mu s dst p k = k (s.put dst p) := by
  obtain ⟨v, m⟩ := p
  unfold putF putV St.put
  cases mu <;> simp only [fcM_eq] <;> cases dst <;> simp only [fcV_eq, fcS_eq]
def semOpsF (cl : Cl S) (all : List Oper) : List Oper → St S → D (St S)
  | [], s => .ret s
  | o :: r, s =>
    match o.guard with
    | none => (semOp C cl s.mem (s.ev C) o).bind fun p => putF (mutB o) s o.dst p (semOpsF cl all r)
    | some (j, want) =>
      match (all[j]?).bind (·.dst) with
      | some d => match s.tmps[d]? with
        | some (.cell .bool b) =>
          let yes (s : St S) := (semOp C cl s.mem (s.ev C) o).bind fun p => putF (mutB o) s o.dst p (semOpsF cl all r)
          let no (s : St S) := putF false s o.dst (.tup [], s.mem) (semOpsF cl all r)
          .split b (let s' : St S := { s with tmps := s.tmps.set d (.cell .bool true) }; if want then yes s' else no s')
                   (let s' : St S := { s with tmps := s.tmps.set d (.cell .bool false) }; if want then no s' else yes s')
        | some (.tup []) => putF false s o.dst (.tup [], s.mem) (semOpsF cl all r)
        | _ => .fail
      | none => .fail
theorem semOpsF_eq (cl : Cl S) (all : List Oper) : ∀ (l : List Oper) (s : St S), semOpsF C cl all l s = semOps C cl all l s
  | [], s => rfl
  | o :: r, s => by
    have ih := funext (semOpsF_eq cl all r)
    unfold semOpsF semOps
    simp only [putF_eq, ih]
    rfl

def exF {R : Type} (cl : Cl S) (L : Lp S R) (fin : St S → D R) : Nat → List Item → St S → D R
  | 0, _, _ => .fail
  | n + 1, todo, s =>
    match todo with
    | [] => fin s
    | .code .ret :: _ => fin s
    | .code .skip :: k | .code (.label _) :: k | .inBlock _ :: k | .inScope _ :: k => exF cl L fin n k s
    | .code (.seq a b) :: k => exF cl L fin n (.code a :: .code b :: k) s
    | .code (.cond c x y) :: k => match s.ev C c with
      | .cell .bool b => .split b (exF cl L fin n (.code x :: k) s) (exF cl L fin n (.code y :: k) s)
      | _ => .fail
    | .code (.block id b) :: k => exF cl L fin n (.code b :: .inBlock id :: k) s
    | .code (.scope b) :: k => exF cl L fin n (.code b :: .inScope b :: k) s
    | .code (.loop b) :: k | .inLoop b :: k => L (.inLoop b :: k) s
    | .code (.exit id) :: k => match exitTo id k with
      | some k' => exF cl L fin n k' s
      | none => .fail
    | .code (.region _ ops _) :: k => (semOpsF C cl ops.toList ops.toList s).bind fun s' => exF cl L fin n k s'
    | _ => .fail
theorem exF_eq {R : Type} (cl : Cl S) (L : Lp S R) (fin : St S → D R) : ∀ (n : Nat) (todo : List Item) (s : St S), exF C cl L fin n todo s = ex C cl L fin n todo s
  | 0, _, _ => rfl
  | n + 1, todo, s => by
    have ih := exF_eq cl L fin n
    unfold exF ex
    simp only [ih, semOpsF_eq]
    rfl
/-- A state told whole. -/
def fcT {β : Type 1} (s : St S) (k : St S → β) : β := fcL s.tmps fun ts => fcM s.mem fun m => k { tmps := ts, mem := m }
theorem fcT_eq {β : Type 1} (s : St S) (k : St S → β) : fcT s k = k s := by unfold fcT; rw [fcL_eq, fcM_eq]

def clDF : Nat → Cl S
  | 0 => fun _ _ _ => .fail
  | d + 1 => fun f args m => match C.P.funcs[f]? with
    | some fn => match fn.body with
      | some b => fcT (st0 fn args m) fun s => exF C (clDF d) (fun _ _ => .fail) (fun s => (D.ofOpt (resV C fn.results.toList s)).bind fun v => .ret (v, s.mem)) fuel [.code b] s
      | none => .fail
    | none => .fail
theorem clDF_eq : ∀ d, clDF C d = clD C d
  | 0 => rfl
  | d + 1 => by
    funext f args m
    unfold clDF clD
    rw [clDF_eq d]
    simp only [exF_eq, fcT_eq]
    cases C.P.funcs[f]? with
    | none => rfl
    | some fn =>
      simp only
      cases fn.body <;> rfl
def runWF {R : Type} (cl : Cl S) (L : (St S → D R) → Lp S R) (f : FuncId) (ts : List Ty) (de : List (Cell S) → Option R) (args : List (V S)) : D R :=
  match body? C f with
  | some (fn, b) => fcT (st0 fn args []) fun s => exF C cl (L (finR C fn ts de)) (finR C fn ts de) fuel [.code b] s
  | none => .fail
theorem runWF_eq {R : Type} (d : Nat) (L : (St S → D R) → Lp S R) (f : FuncId) (ts : List Ty) (de : List (Cell S) → Option R) (args : List (V S)) : runW C (clD C d) L f ts de args = runWF C (clDF C d) L f ts de args := by
  unfold runWF runW
  rw [clDF_eq]
  simp only [exF_eq, fcT_eq]
  cases body? C f with
  | none => rfl
  | some p => rfl
def roundTF {R : Type} (cl : Cl S) (hd : List Item → St S → Option (St S)) (fin : St S → D R) (L : Lp S R) (s : St S) : List Item → D R
  | .inLoop c :: k => fcT s fun s => exF C cl (canonL hd L) fin fuel (.code c :: .inLoop c :: k) s
  | _ => .fail
def roundWF {R : Type} (cl : Cl S) (hd : List Item → St S → Option (St S)) (f : FuncId) (i : Nat) (ts : List Ty) (de : List (Cell S) → Option R) (L : Lp S R) (s : St S) : D R :=
  roundTF C cl hd (finW C f ts de) L s (todoOf C f i)
theorem roundWF_eq {R : Type} (d : Nat) (hd : List Item → St S → Option (St S)) (f : FuncId) (i : Nat) (ts : List Ty) (de : List (Cell S) → Option R) (L : Lp S R) (s : St S) : roundW C (clD C d) hd f i ts de L s = roundWF C (clDF C d) hd f i ts de L s := by
  unfold roundWF roundW
  rw [clDF_eq]
  cases todoOf C f i with
  | nil => rfl
  | cons x k => cases x <;> simp only [roundT, roundTF, exF_eq, fcT_eq]
end
theorem run0_ev0 {C : Ctx S} {cl : Cl S} {R : Type} {hd : List Item → St S → Option (St S)} {f : FuncId} {ts : List Ty} {de : List (Cell S) → Option R} {F : Option R} (hev : ∀ L, (runW C cl L f ts de []).opt = F) {cs : List (Cell S)} {r : R} (h : run0 F cs = some r) :
    ∃ n, (runF C cl hd f ts de n (cs.map fun c => encV C.E c.t c.x)).opt = some r := by
  obtain ⟨rfl, h⟩ := inv0 h
  exact ⟨0, (hev _).trans h⟩
end Go.Lv
