import Derived.Test.YtonphdpgepnenaaDoorLvOp
namespace Go.Lv
set_option linter.all false
open Go Go.RowKit
variable {S : Nat → Type}

section
variable {C : Ctx S}

/-- An operation asks its operands alone. -/
theorem semOp_congr (cl : Cl S) (m : Mem S) {ev ev' : Operand → V S} (o : Oper) (h : ∀ x, x ∈ o.op.operands.toList → ev x = ev' x) : semOp C cl m ev o = semOp C cl m ev' o := by
  have mapE : ∀ (xs : List Operand), (∀ x ∈ xs, ev x = ev' x) → xs.map ev = xs.map ev' := fun xs hx => List.map_congr_left hx
  have mapP : ∀ (ps : List (Nat × Operand)), (∀ p ∈ ps, ev p.2 = ev' p.2) → ps.map (fun p => (p.1, ev p.2)) = ps.map (fun p => (p.1, ev' p.2)) := fun ps hx => List.map_congr_left fun p hp => by rw [hx p hp]
  have optE : ∀ (z : Option Operand), (∀ x, z = some x → ev x = ev' x) → z.map ev = z.map ev' := by
    intro z hz; cases z with
    | none => rfl
    | some z => simp [hz z rfl]
  unfold semOp
  cases hop : o.op with
  | move x => simp only [hop, Op.operands] at h ⊢; rw [h x (by simp)]
  | assign x => simp only [hop, Op.operands] at h ⊢; rw [h x (by simp)]
  | pick c a b => simp only [hop, Op.operands] at h ⊢; rw [h c (by simp), h a (by simp), h b (by simp)]
  | alloc t => rfl
  | box t x => simp only [hop, Op.operands] at h ⊢; rw [h x (by simp)]
  | build t ps => simp only [hop, Op.operands] at h ⊢; rw [mapP ps.toList (fun p hp => h p.2 (by simp; exact ⟨p.1, by simpa using hp⟩))]
  | buildSlice t n ps => simp only [hop, Op.operands] at h ⊢; rw [mapP ps.toList (fun p hp => h p.2 (by simp; exact ⟨p.1, by simpa using hp⟩))]
  | load t x => simp only [hop, Op.operands] at h ⊢; rw [h x (by simp)]
  | store t a x => simp only [hop, Op.operands] at h ⊢; rw [h a (by simp), h x (by simp)]
  | nilCheck x => simp only [hop, Op.operands] at h ⊢; rw [h x (by simp)]
  | binOp op t x y u => simp only [hop, Op.operands] at h ⊢; rw [h x (by simp), h y (by simp)]
  | unOp op t x => simp only [hop, Op.operands] at h ⊢; rw [h x (by simp)]
  | convert s d x => simp only [hop, Op.operands] at h ⊢; rw [h x (by simp)]
  | makeFunc fn first caps =>
    simp only [hop, Op.operands] at h ⊢
    cases fn with
    | func f => simp only; rw [mapE first.toList (fun x hx => h x (by simp at hx ⊢; exact .inl hx)), mapE caps.toList (fun x hx => h x (by simp at hx ⊢; exact .inr hx))]
    | _ => rfl
  | makeSlice t a b => simp only [hop, Op.operands] at h ⊢; rw [h a (by simp), h b (by simp)]
  | slice t x lo hi mx =>
    simp only [hop, Op.operands] at h ⊢
    rw [h x (by simp), optE lo (fun y hy => h y (by subst hy; simp)), optE hi (fun y hy => h y (by subst hy; simp)), optE mx (fun y hy => h y (by subst hy; simp))]
  | fieldAddr s x f => simp only [hop, Op.operands] at h ⊢; rw [h x (by simp)]
  | field s x f => simp only [hop, Op.operands] at h ⊢; rw [h x (by simp)]
  | indexAddr t x i => simp only [hop, Op.operands] at h ⊢; rw [h x (by simp), h i (by simp)]
  | index t x i => simp only [hop, Op.operands] at h ⊢; rw [h x (by simp), h i (by simp)]
  | lookup t x i ok =>
    simp only [hop, Op.operands] at h
    cases ok with
    | true => simp only; rw [h x (by simp), h i (by simp)]
    | false => simp only; rw [h x (by simp), h i (by simp)]
  | mapUpdate t x i v => simp only [hop, Op.operands] at h ⊢; rw [h x (by simp), h i (by simp), h v (by simp)]
  | extract t i => simp only [hop, Op.operands] at h ⊢; rw [h t (by simp)]
  | call c =>
    simp only [hop, Op.operands, Call.operands] at h ⊢
    have hargs : ∀ x ∈ c.args.toList, ev x = ev' x := fun x hx => h x (by simp at hx ⊢; exact .inr hx)
    cases hc : c.callee with
    | builtin b =>
      cases b with
      | len => simp only; split <;> first | rfl | (rename_i x t e1 e2; rw [hargs x (by rw [e1]; simp)])
      | append => simp only; split <;> first | rfl | (rename_i s x t t' e1 e2; rw [hargs s (by rw [e1]; simp), hargs x (by rw [e1]; simp)])
      | copy => simp only; split <;> first | rfl | (rename_i s x t t' e1 e2; rw [hargs s (by rw [e1]; simp), hargs x (by rw [e1]; simp)])
      | min => simp only; rw [mapE _ hargs]
      | max => simp only; rw [mapE _ hargs]
      | _ => rfl
    | value f => simp only; rw [h f (by rw [hc]; simp), mapE _ hargs]
    | invoke r n => simp only; rw [h r (by rw [hc]; simp), mapE _ hargs]
  | makeMap t r => cases r <;> rfl
  | _ => rfl

/-- What an operation may do: 0: nothing with memory; 1: it reads, it marks; 2: more. -/
def cls (o : Oper) : Nat :=
  match o.op with
  | .move _ | .assign _ | .pick .. | .build .. | .nilCheck _ | .binOp .. | .unOp .. | .makeFunc .. | .fieldAddr .. | .field .. | .index .. | .extract .. => 0
  | .lookup t _ _ ok => bif ok then 0 else match mapKB C t with | some _ => 2 | none => 0
  | .load .. | .indexAddr .. => 1
  | .buildSlice .. => bif C.own then 2 else 1
  | .slice t .. => match C.P.underlying t with | some (.array _ _) => 2 | _ => 1
  | .convert _ t _ => match C.P.underlying t with | some .string => 1 | _ => 0
  | .call c => match c.callee with
    | .builtin .min | .builtin .max => 0
    | .builtin .len => 1
    | .value (.func f) => if (C.spec f).isSome then 1 else 2
    | _ => 2
  | _ => 2
end
end Go.Lv
