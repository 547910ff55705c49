import Derived.Test.YtonphdpgepnenaaDoorLvLoop
namespace Go.Lv
set_option linter.all false
open Go Go.RowKit
variable {S : Nat → Type}

/-! Runs whose states are told afresh at each step: the same runs; the kernel takes them faster. -/
section
variable {β : Type 1}
def fcN (n : Nat) (k : Nat → β) : β := match n with
  | 0 => k 0
  | m + 1 => k (m + 1)
theorem fcN_eq (n : Nat) (k : Nat → β) : fcN n k = k n := by cases n <;> rfl
def fcC (v : V S) (k : V S → β) : β := match v with
  | .cell t x => k (.cell t x)
  | .full t l => k (.full t l)
  | .nilS => k .nilS
  | .agg cs => k (.agg cs)
  | .ptr id off => fcN id fun id => fcN off fun off => k (.ptr id off)
  | .own id g => fcN id fun id => fcN g fun g => k (.own id g)
  | .eptr id g i off => fcN id fun id => fcN g fun g => fcN off fun off => k (.eptr id g i off)
  | .ro cs => k (.ro cs)
  | .clo f a b => k (.clo f a b)
  | .tup vs => k (.tup vs)
  | .cmap es => k (.cmap es)
  | .mapr id => fcN id fun id => k (.mapr id)
  | .ifc t => k (.ifc t)
  | .undef => k .undef
theorem fcC_eq (v : V S) (k : V S → β) : fcC v k = k v := by cases v <;> simp [fcC, fcN_eq]
def fcL : List (V S) → (List (V S) → β) → β
  | [], k => k []
  | v :: r, k => fcC v fun v => fcL r fun r => k (v :: r)
theorem fcL_eq : ∀ (l : List (V S)) (k : List (V S) → β), fcL l k = k l
  | [], k => rfl
  | v :: r, k => by simp only [fcL, fcC_eq, fcL_eq r]
def fcV (v : V S) (k : V S → β) : β := match v with
  | .agg cs => fcL cs fun cs => k (.agg cs)
  | .ro cs => fcL cs fun cs => k (.ro cs)
  | .clo f a b => fcL a fun a => fcL b fun b => k (.clo f a b)
  | .tup vs => fcL vs fun vs => k (.tup vs)
  | v => fcC v k
theorem fcV_eq (v : V S) (k : V S → β) : fcV v k = k v := by cases v <;> simp [fcV, fcC_eq, fcL_eq]
def fcO (o : Ob S) (k : Ob S → β) : β := match o with
  | .box cs fz => fcL cs fun cs => k (.box cs fz)
  | .arr e t l g fz => fcN g fun g => k (.arr e t l g fz)
  | .map a b l => k (.map a b l)
theorem fcO_eq (o : Ob S) (k : Ob S → β) : fcO o k = k o := by cases o <;> simp [fcO, fcN_eq, fcL_eq]
def fcM : Mem S → (Mem S → β) → β
  | [], k => k []
  | o :: r, k => fcO o fun o => fcM r fun r => k (o :: r)
theorem fcM_eq : ∀ (l : Mem S) (k : Mem S → β), fcM l k = k l
  | [], k => rfl
  | v :: r, k => by simp only [fcM, fcO_eq, fcM_eq r]
/-- A list with a place told anew. -/
def fcS : List (V S) → Nat → V S → (List (V S) → β) → β
  | [], _, _, k => k []
  | _ :: r, 0, v, k => k (v :: r)
  | x :: r, n + 1, v, k => fcS r n v fun r => k (x :: r)
theorem fcS_eq : ∀ (l : List (V S)) (n : Nat) (v : V S) (k : List (V S) → β), fcS l n v k = k (l.set n v)
  | [], _, _, k => by simp [fcS]
  | x :: r, 0, v, k => rfl
  | x :: r, n + 1, v, k => by simp only [fcS, fcS_eq r, List.set_cons_succ]
end

/-! Slots in rows of twelve: what is read, or told anew, lies a few steps away. -/
section
variable {α : Type}
def rflat : List (List α) → List α
  | [] => []
  | r :: rs => r ++ rflat rs
def rget : List (List α) → Nat → Nat → Option α
  | [], _, _ => none
  | r :: _, 0, j => r[j]?
  | _ :: rs, q + 1, j => rget rs q j
def rset : List (List α) → Nat → Nat → α → List (List α)
  | [], _, _, _ => []
  | r :: rs, 0, j, v => r.set j v :: rs
  | r :: rs, q + 1, j, v => r :: rset rs q j v
def RWf : List (List α) → Prop
  | [] => True
  | r :: rs => (r.length = 12 ∨ rs = [] ∧ r.length ≤ 12) ∧ RWf rs
theorem rget_eq : ∀ (rs : List (List α)) (d : Nat), RWf rs → rget rs (Nat.div d 12) (Nat.mod d 12) = (rflat rs)[d]?
  | [], d, _ => by simp [rget, rflat]
  | r :: rs, d, h => by
    have h12 : r.length ≤ 12 := by rcases h.1 with h | h <;> omega
    by_cases hd : d < 12
    · have e1 : Nat.div d 12 = 0 := Nat.div_eq_of_lt hd
      have e2 : Nat.mod d 12 = d := Nat.mod_eq_of_lt hd
      rw [e1, e2]
      simp only [rget, rflat]
      rcases h.1 with h | h
      · rw [List.getElem?_append_left (by omega)]
      · rw [h.1]; simp [rflat]
    · have e1 : Nat.div d 12 = Nat.div (d - 12) 12 + 1 := by show d / 12 = (d - 12) / 12 + 1; omega
      have e2 : Nat.mod d 12 = Nat.mod (d - 12) 12 := by show d % 12 = (d - 12) % 12; omega
      rw [e1, e2]
      simp only [rget, rflat]
      rw [rget_eq rs (d - 12) h.2]
      rcases h.1 with h | h
      · rw [List.getElem?_append_right (by omega), h]
      · rw [h.1, List.getElem?_append_right (by omega)]; simp [rflat]
theorem rset_eq : ∀ (rs : List (List α)) (d : Nat) (v : α), RWf rs → rflat (rset rs (Nat.div d 12) (Nat.mod d 12) v) = (rflat rs).set d v
  | [], d, v, _ => by simp [rset, rflat]
  | r :: rs, d, v, h => by
    have h12 : r.length ≤ 12 := by rcases h.1 with h | h <;> omega
    by_cases hd : d < 12
    · have e1 : Nat.div d 12 = 0 := Nat.div_eq_of_lt hd
      have e2 : Nat.mod d 12 = d := Nat.mod_eq_of_lt hd
      rw [e1, e2]
      simp only [rset, rflat]
      rcases h.1 with h | h
      · rw [List.set_append_left _ _ (by omega)]
      · rw [h.1]; simp [rflat]
    · have e1 : Nat.div d 12 = Nat.div (d - 12) 12 + 1 := by show d / 12 = (d - 12) / 12 + 1; omega
      have e2 : Nat.mod d 12 = Nat.mod (d - 12) 12 := by show d % 12 = (d - 12) % 12; omega
      rw [e1, e2]
      simp only [rset, rflat]
      rw [rset_eq rs (d - 12) v h.2]
      rcases h.1 with h | h
      · rw [List.set_append_right _ _ (by omega), h]
      · rw [h.1, List.set_append_right _ _ (by omega)]; simp [rflat]
theorem rset_nil : ∀ (rs : List (List α)) (q j : Nat) (v : α), rset rs q j v = [] → rs = []
  | [], _, _, _, _ => rfl
  | _ :: _, 0, _, _, h => by simp [rset] at h
  | _ :: _, _ + 1, _, _, h => by simp [rset] at h
theorem rset_wf : ∀ (rs : List (List α)) (q j : Nat) (v : α), RWf rs → RWf (rset rs q j v)
  | [], _, _, _, h => h
  | r :: rs, 0, j, v, h => by simpa [rset, RWf] using h
  | r :: rs, q + 1, j, v, h => by
    refine ⟨?_, rset_wf rs q j v h.2⟩
    rcases h.1 with h | h
    · exact .inl h
    · rw [h.1]; exact .inr ⟨rfl, h.2⟩
/-- A list laid in rows. -/
def rchunk : List α → List α → List (List α)
  | [], _ => []
  | _ :: f, l => match l with
    | [] => []
    | x :: r => ((x :: r).take 12) :: rchunk f ((x :: r).drop 12)
theorem chunk_ok : ∀ (f l : List α), l.length ≤ f.length → rflat (rchunk f l) = l ∧ RWf (rchunk f l)
  | [], l, h => by
    have : l = [] := List.length_eq_zero_iff.1 (by simpa using h)
    subst this; exact ⟨rfl, trivial⟩
  | _ :: f, [], _ => ⟨rfl, trivial⟩
  | _ :: f, x :: r, h => by
    have ih := chunk_ok f ((x :: r).drop 12) (by simp at h ⊢; omega)
    simp only [rchunk, rflat]
    refine ⟨by rw [ih.1, List.take_append_drop], ?_, ih.2⟩
    by_cases hl : 12 ≤ (x :: r).length
    · exact .inl (by rw [List.length_take]; omega)
    · refine .inr ⟨?_, by rw [List.length_take]; omega⟩
      rw [List.drop_eq_nil_of_le (by omega)]
      cases f <;> rfl
end
section
variable {β : Type 1} {α : Type}
def fcR : List (List (V S)) → Nat → Nat → V S → (List (List (V S)) → β) → β
  | [], _, _, _, k => k []
  | r :: rs, 0, j, v, k => fcN j fun j => fcS r j v fun r => k (r :: rs)
  | r :: rs, q + 1, j, v, k => fcR rs q j v fun rs => k (r :: rs)
theorem fcR_eq : ∀ (rs : List (List (V S))) (q j : Nat) (v : V S) (k : List (List (V S)) → β), fcR rs q j v k = k (rset rs q j v)
  | [], _, _, _, _ => rfl
  | r :: rs, 0, j, v, k => by simp only [fcR, fcN_eq, fcS_eq, rset]
  | r :: rs, q + 1, j, v, k => by simp only [fcR, fcR_eq rs, rset]
def fcA : Nat → List α → (List α → List α → β) → β
  | 0, l, k => k [] l
  | _ + 1, [], k => k [] []
  | n + 1, x :: l, k => fcA n l fun a b => k (x :: a) b
theorem fcA_eq : ∀ (n : Nat) (l : List α) (k : List α → List α → β), fcA n l k = k (l.take n) (l.drop n)
  | 0, l, k => by simp [fcA]
  | _ + 1, [], k => by simp [fcA]
  | n + 1, x :: l, k => by simp only [fcA, fcA_eq n l, List.take_succ_cons, List.drop_succ_cons]
def fcK : List α → List α → (List (List α) → β) → β
  | [], _, k => k []
  | _ :: f, l, k => match l with
    | [] => k []
    | x :: r => fcA 12 (x :: r) fun a b => fcK f b fun rs => k (a :: rs)
theorem fcK_eq : ∀ (f l : List α) (k : List (List α) → β), fcK f l k = k (rchunk f l)
  | [], _, _ => rfl
  | _ :: f, [], _ => rfl
  | _ :: f, x :: r, k => by simp only [fcK, fcA_eq, fcK_eq f, rchunk]
end
structure Sr (S : Nat → Type) where
  rows : List (List (V S))
  mem : Mem S
def Sr.st (s : Sr S) : St S := { tmps := rflat s.rows, mem := s.mem }
theorem D.bind_assoc {α β γ : Type} (d : D α) (f : α → D β) (g : β → D γ) : (d.bind f).bind g = d.bind fun a => (f a).bind g := by
  induction d with
  | ret a => rfl
  | fail => rfl
  | split b x y hx hy => simp only [D.bind, hx, hy]
  | call o k ih => simp only [D.bind]; congr 1; funext r; exact ih r

section
variable (C : Ctx S)
def Sr.ev (s : Sr S) : Operand → V S
  | .tmp t => (rget s.rows (Nat.div t 12) (Nat.mod t 12)).getD .undef
  | .const v => ofConst v
  | .global g => match C.G g with
    | some cs => .ro cs
    | none => .undef
  | .func f => .clo f [] []
theorem Sr.ev_eq (s : Sr S) (h : RWf s.rows) : s.ev C = s.st.ev C := by
  funext o
  cases o with
  | tmp t => simp only [Sr.ev, St.ev, Sr.st, rget_eq _ _ h, List.getD_eq_getElem?_getD]
  | _ => rfl
/-- Does it turn the memory? -/
def mutB (o : Oper) : Bool := match o.op with
  | .alloc _ => true
  | .box _ _ => true
  | .store _ _ _ => true
  | .call _ => true
  | .makeSlice _ _ _ => true
  | .buildSlice _ _ _ => true
  | .slice _ _ _ _ _ => true
  | _ => false
variable {R : Type}
def setF (s : Sr S) (d : Nat) (v : V S) (m : Mem S) (k : Sr S → D R) : D R := fcR s.rows (Nat.div d 12) (Nat.mod d 12) v fun rs => k { rows := rs, mem := m }
def putV (s : Sr S) (dst : Option Nat) (v : V S) (m : Mem S) (k : Sr S → D R) : D R := match dst with
  | some d => fcV v fun v => setF s d v m k
  | none => k { rows := s.rows, mem := m }
def putF (mu : Bool) (s : Sr S) (dst : Option Nat) (p : V S × Mem S) (k : Sr S → D R) : D R :=
  match p with
  | (v, m) => match mu with
    | true => fcM m fun m => putV s dst v m k
    | false => putV s dst v m k
theorem setF_eq (s : Sr S) (h : RWf s.rows) (d : Nat) (v : V S) (m : Mem S) {k : Sr S → D R} {k' : St S → D R} (hk : ∀ s, RWf s.rows → k s = k' s.st) : setF s d v m k = k' { tmps := s.st.tmps.set d v, mem := m } := by
  unfold setF
  rw [fcR_eq, hk _ (rset_wf _ _ _ _ h)]
  simp only [Sr.st, rset_eq _ _ _ h]
theorem putF_eq (mu : Bool) (s : Sr S) (h : RWf s.rows) (dst : Option Nat) (p : V S × Mem S) {k : Sr S → D R} {k' : St S → D R} (hk : ∀ s, RWf s.rows → k s = k' s.st) : putF mu s dst p k = k' (s.st.put dst p) := by
  obtain ⟨v, m⟩ := p
  have e : putV s dst v m k = k' (s.st.put dst (v, m)) := by
    unfold putV St.put
    cases dst with
    | none => exact hk _ h
    | some d => simp only [fcV_eq]; exact setF_eq s h d v m hk
  unfold putF
  cases mu <;> simp only [fcM_eq] <;> exact e
def semOpsF (cl : Cl S) (all : List Oper) (k : Sr S → D R) : List Oper → Sr S → D R
  | [], s => k s
  | o :: r, s =>
    match o.guard with
    | none => (semOp C cl s.mem (s.ev C) o).bind fun p => putF (mutB o) s o.dst p (semOpsF cl all k r)
    | some (j, want) =>
      match (all[j]?).bind (·.dst) with
      | some d => match rget s.rows (Nat.div d 12) (Nat.mod d 12) with
        | some (.cell .bool b) =>
          let yes (s : Sr S) := (semOp C cl s.mem (s.ev C) o).bind fun p => putF (mutB o) s o.dst p (semOpsF cl all k r)
          let no (s : Sr S) := putF false s o.dst (.tup [], s.mem) (semOpsF cl all k r)
          .split b (setF s d (.cell .bool true) s.mem fun s' => if want then yes s' else no s')
                   (setF s d (.cell .bool false) s.mem fun s' => if want then no s' else yes s')
        | some (.tup []) => putF false s o.dst (.tup [], s.mem) (semOpsF cl all k r)
        | _ => .fail
      | none => .fail
theorem semOpsF_eq (cl : Cl S) (all : List Oper) {k : Sr S → D R} {k' : St S → D R} (hk : ∀ s, RWf s.rows → k s = k' s.st) : ∀ (l : List Oper) (s : Sr S), RWf s.rows → semOpsF C cl all k l s = (semOps C cl all l s.st).bind k'
  | [], s, h => hk s h
  | o :: r, s, h => by
    have ih := semOpsF_eq cl all hk r
    have yes : ∀ s : Sr S, RWf s.rows → ((semOp C cl s.mem (s.ev C) o).bind fun p => putF (mutB o) s o.dst p (semOpsF C cl all k r)) = ((semOp C cl s.st.mem (s.st.ev C) o).bind fun p => semOps C cl all r (s.st.put o.dst p)).bind k' := by
      intro s h
      rw [D.bind_assoc, s.ev_eq C h]
      congr 1
      funext p
      exact putF_eq _ s h _ _ (k' := fun s => (semOps C cl all r s).bind k') ih
    have no : ∀ s : Sr S, RWf s.rows → putF false s o.dst (.tup [], s.mem) (semOpsF C cl all k r) = (semOps C cl all r (s.st.put o.dst (.tup [], s.st.mem))).bind k' := by
      intro s h
      exact putF_eq _ s h _ _ (k' := fun s => (semOps C cl all r s).bind k') ih
    unfold semOpsF semOps
    cases hg : o.guard with
    | none => exact yes s h
    | some g =>
      obtain ⟨j, want⟩ := g
      simp only
      cases hd : (all[j]?).bind (·.dst) with
      | none => rfl
      | some d =>
        simp only
        rw [rget_eq _ _ h]
        have e : (rflat s.rows)[d]? = s.st.tmps[d]? := rfl
        rw [e]
        have key : ∀ b : Bool, D.split b
            (setF s d (.cell .bool true) s.mem fun s' => if want then (semOp C cl s'.mem (s'.ev C) o).bind fun p => putF (mutB o) s' o.dst p (semOpsF C cl all k r) else putF false s' o.dst (.tup [], s'.mem) (semOpsF C cl all k r))
            (setF s d (.cell .bool false) s.mem fun s' => if want then putF false s' o.dst (.tup [], s'.mem) (semOpsF C cl all k r) else (semOp C cl s'.mem (s'.ev C) o).bind fun p => putF (mutB o) s' o.dst p (semOpsF C cl all k r)) =
            (D.split b (let s' : St S := { s.st with tmps := s.st.tmps.set d (.cell .bool true) }; if want then (semOp C cl s'.mem (s'.ev C) o).bind fun p => semOps C cl all r (s'.put o.dst p) else semOps C cl all r (s'.put o.dst (.tup [], s'.mem)))
              (let s' : St S := { s.st with tmps := s.st.tmps.set d (.cell .bool false) }; if want then semOps C cl all r (s'.put o.dst (.tup [], s'.mem)) else (semOp C cl s'.mem (s'.ev C) o).bind fun p => semOps C cl all r (s'.put o.dst p))).bind k' := by
          intro b
          simp only [D.bind]
          congr 1
          · refine (setF_eq s h d _ s.mem (k' := fun s' => (if want then (semOp C cl s'.mem (s'.ev C) o).bind fun p => semOps C cl all r (s'.put o.dst p) else semOps C cl all r (s'.put o.dst (.tup [], s'.mem))).bind k') fun s' h' => ?_)
            cases want
            · exact no s' h'
            · exact yes s' h'
          · refine (setF_eq s h d _ s.mem (k' := fun s' => (if want then semOps C cl all r (s'.put o.dst (.tup [], s'.mem)) else (semOp C cl s'.mem (s'.ev C) o).bind fun p => semOps C cl all r (s'.put o.dst p)).bind k') fun s' h' => ?_)
            cases want
            · exact yes s' h'
            · exact no s' h'
        cases hv : s.st.tmps[d]? with
        | none => rfl
        | some v => cases v with
          | cell t x => cases t with
            | bool => exact key x
            | _ => rfl
          | tup vs => cases vs with
            | nil => exact no s h
            | cons _ _ => rfl
          | _ => rfl

def exF (cl : Cl S) (L : Lp S R) (fin : St S → D R) : Nat → List Item → Sr S → D R
  | 0, _, _ => .fail
  | n + 1, todo, s =>
    match todo with
    | [] => fin s.st
    | .code .ret :: _ => fin s.st
    | .code .skip :: k | .code (.label _) :: k | .inBlock _ :: k | .inScope _ :: k => exF cl L fin n k s
    | .code (.seq a b) :: k => exF cl L fin n (.code a :: .code b :: k) s
    | .code (.cond c x y) :: k => match s.ev C c with
      | .cell .bool b => .split b (exF cl L fin n (.code x :: k) s) (exF cl L fin n (.code y :: k) s)
      | _ => .fail
    | .code (.block id b) :: k => exF cl L fin n (.code b :: .inBlock id :: k) s
    | .code (.scope b) :: k => exF cl L fin n (.code b :: .inScope b :: k) s
    | .code (.loop b) :: k | .inLoop b :: k => L (.inLoop b :: k) s.st
    | .code (.exit id) :: k => match exitTo id k with
      | some k' => exF cl L fin n k' s
      | none => .fail
    | .code (.region _ ops _) :: k => semOpsF C cl ops.toList (exF cl L fin n k) ops.toList s
    | _ => .fail
theorem exF_eq (cl : Cl S) (L : Lp S R) (fin : St S → D R) : ∀ (n : Nat) (todo : List Item) (s : Sr S), RWf s.rows → exF C cl L fin n todo s = ex C cl L fin n todo s.st
  | 0, _, _, _ => rfl
  | n + 1, todo, s, h => by
    have ih := exF_eq cl L fin n
    unfold exF ex
    cases todo with
    | nil => rfl
    | cons it k =>
      cases it with
      | code c =>
        cases c with
        | cond c x y =>
          have ih' := fun t => ih t s h
          simp only [s.ev_eq C h, ih']
          cases s.st.ev C c with
          | cell t x => cases t <;> rfl
          | _ => rfl
        | exit id =>
          have ih' := fun t => ih t s h
          simp only [ih']
          cases exitTo id k <;> rfl
        | region id ops draw => exact semOpsF_eq C cl _ (fun s h => ih _ s h) _ s h
        | _ => first | rfl | exact ih _ s h
      | _ => first | rfl | exact ih _ s h
/-- A state told whole. -/
def fcT {β : Type 1} (s : St S) (k : Sr S → β) : β := fcL s.tmps fun ts => fcM s.mem fun m => fcK ts ts fun rs => k { rows := rs, mem := m }
theorem fcT_eq {β : Type 1} (s : St S) (k : Sr S → β) (k' : St S → β) (hk : ∀ s, RWf s.rows → k s = k' s.st) : fcT s k = k' s := by
  unfold fcT
  rw [fcL_eq, fcM_eq, fcK_eq]
  have hc := chunk_ok s.tmps s.tmps (Nat.le_refl _)
  rw [hk _ hc.2]
  simp only [Sr.st, hc.1]

def clDF : Nat → Cl S
  | 0 => fun _ _ _ => .fail
  | d + 1 => fun f args m => match C.P.funcs[f]? with
    | some fn => match fn.body with
      | some b => fcT (st0 fn args m) fun s => exF C (clDF d) (fun _ _ => .fail) (fun s => (D.ofOpt (resV C fn.results.toList s)).bind fun v => .ret (v, s.mem)) fuel [.code b] s
      | none => .fail
    | none => .fail
theorem clDF_eq : ∀ d, clDF C d = clD C d
  | 0 => rfl
  | d + 1 => by
    funext f args m
    unfold clDF clD
    rw [clDF_eq d]
    cases C.P.funcs[f]? with
    | none => rfl
    | some fn =>
      simp only
      cases fn.body with
      | none => rfl
      | some b => exact fcT_eq _ _ (fun s => ex C (clD C d) (fun _ _ => .fail) (fun s => (D.ofOpt (resV C fn.results.toList s)).bind fun v => .ret (v, s.mem)) fuel [.code b] s) fun s h => exF_eq C _ _ _ _ _ s h
def runWF (cl : Cl S) (L : (St S → D R) → Lp S R) (f : FuncId) (ts : List Ty) (de : List (Cell S) → Option R) (args : List (V S)) : D R :=
  match body? C f with
  | some (fn, b) => fcT (st0 fn args []) fun s => exF C cl (L (finR C fn ts de)) (finR C fn ts de) fuel [.code b] s
  | none => .fail
theorem runWF_eq (d : Nat) (L : (St S → D R) → Lp S R) (f : FuncId) (ts : List Ty) (de : List (Cell S) → Option R) (args : List (V S)) : runW C (clD C d) L f ts de args = runWF C (clDF C d) L f ts de args := by
  unfold runWF runW
  rw [clDF_eq]
  cases body? C f with
  | none => rfl
  | some p => exact (fcT_eq _ _ (fun s => ex C (clD C d) (L (finR C p.1 ts de)) (finR C p.1 ts de) fuel [.code p.2] s) fun s h => exF_eq C _ _ _ _ _ s h).symm
def roundTF (cl : Cl S) (hd : List Item → St S → Option (St S)) (fin : St S → D R) (L : Lp S R) (s : St S) : List Item → D R
  | .inLoop c :: k => fcT s fun s => exF C cl (canonL hd L) fin fuel (.code c :: .inLoop c :: k) s
  | _ => .fail
def roundWF (cl : Cl S) (hd : List Item → St S → Option (St S)) (f : FuncId) (i : Nat) (ts : List Ty) (de : List (Cell S) → Option R) (L : Lp S R) (s : St S) : D R :=
  roundTF C cl hd (finW C f ts de) L s (todoOf C f i)
theorem roundWF_eq (d : Nat) (hd : List Item → St S → Option (St S)) (f : FuncId) (i : Nat) (ts : List Ty) (de : List (Cell S) → Option R) (L : Lp S R) (s : St S) : roundW C (clD C d) hd f i ts de L s = roundWF C (clDF C d) hd f i ts de L s := by
  unfold roundWF roundW
  rw [clDF_eq]
  cases todoOf C f i with
  | nil => rfl
  | cons x k => cases x with
    | inLoop c => exact (fcT_eq _ _ (fun s => ex C (clD C d) (canonL hd L) (finW C f ts de) fuel (.code c :: .inLoop c :: k) s) fun s h => exF_eq C _ _ _ _ _ s h).symm
    | _ => rfl
end
theorem run0_ev0 {C : Ctx S} {cl : Cl S} {R : Type} {hd : List Item → St S → Option (St S)} {f : FuncId} {ts : List Ty} {de : List (Cell S) → Option R} {F : Option R} (hev : ∀ L, (runW C cl L f ts de []).opt = F) {cs : List (Cell S)} {r : R} (h : run0 F cs = some r) :
    ∃ n, (runF C cl hd f ts de n (cs.map fun c => encV C.E c.t c.x)).opt = some r := by
  obtain ⟨rfl, h⟩ := inv0 h
  exact ⟨0, (hev _).trans h⟩
end Go.Lv
