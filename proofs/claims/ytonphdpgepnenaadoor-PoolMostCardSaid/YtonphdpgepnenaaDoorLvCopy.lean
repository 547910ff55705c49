import Derived.Test.YtonphdpgepnenaaDoorLvBuild
import Derived.Laws.IdiomCopy
namespace Go.Lv
set_option linter.all false
open Go Go.RowKit
variable {S : Nat → Type}

section
variable {C : Ctx S} {K : Gh} {w : World} {B : Nat} {m : Mem S}

theorem copy_res (hE : EnvOK C.E) (hT : TyOK C) (h : RelM C K w B m) {t t' ty e : TypeId} {T : Ty} (hu : C.P.underlying t = some (.slice e)) (hty : C.ty e = some T) (h1 : tsize C.E T = 1) {vd vx : Value} {d x y : V S} {m' : Mem S}
    (hvd : RepV C.E K w vd d) (hvx : RepV C.E K w vx x) (hx : (semCopy m e T d x).opt = some (y, m')) :
    VRes C K w B ((Builtin.copy_ #[t, t'] ty #[vd, vx]).run C.P w) y m' := by
  obtain ⟨i, z, hi, hsz, hz, hzs, hpos, hby⟩ := hT e T hty
  have hs1 : (C.P.info? e).map (·.size) = some 1 := by rw [hi]; simp [hsz, h1]
  unfold semCopy at hx
  obtain ⟨ys, hys, hx⟩ := opt_ofOpt_bind hx
  obtain ⟨ad, cx, rfl, ds, d1, d2, d3, d4, d5⟩ := list_cells hE h hvx hys
  rw [h1, Nat.mul_one] at d1
  split at hx
  · rename_i id g _
    split at hx
    · rename_i e' t0 l g' hm
      split at hx
      · rename_i et
        subst et
        split at hx
        · rename_i hge
          obtain ⟨rfl, rfl⟩ := hge
          simp only [D.opt, Option.some.injEq, Prod.mk.injEq] at hx
          obtain ⟨rfl, rfl⟩ := hx
          obtain ⟨q1, q2, q3⟩ := h.ob id _ hm
          have hin : id < K.n := by rw [h.n]; exact (List.getElem?_eq_some_iff.1 hm).1
          have hvd' : vd = K.hv id := by cases hvd with | own _ _ _ hn hg hp hh => exact hh q1
          rw [hvd']
          have setId : m.set id (.arr e t0 l g false) = m := by
            apply List.ext_getElem?
            intro j
            by_cases ej : j = id
            · subst ej; rw [List.getElem?_set_self (by rw [← h.n]; exact hin), hm]
            · rw [List.getElem?_set_ne (fun q => ej q.symm)]
          by_cases hn0 : Nat.min ys.length l.length = 0
          · have hl0 : ys.take l.length ++ l.drop ys.length = l := by
              rcases Nat.eq_zero_or_pos ys.length with q | q
              · have : ys = [] := List.eq_nil_of_length_eq_zero q
                subst this; simp
              · have : l.length = 0 := by have hm0 : min ys.length l.length = 0 := hn0; omega
                have : l = [] := List.eq_nil_of_length_eq_zero this
                subst this; simp
            have hmin : min ys.length l.length = 0 := hn0
            rw [hl0, hmin, setId]
            have : ∃ da dc, K.hv id = .slice da l.length dc := by
              rcases q3 with ⟨_, rfl, a, ha⟩ | ⟨_, c, cap, p1, _⟩
              · exact ⟨a, 0, ha⟩
              · exact ⟨_, cap, p1⟩
            obtain ⟨da, dc, hda⟩ := this
            rw [hda]
            exact VRes.pur h (run_copy_none w t t' ty e da ad l.length dc ys.length cx hu hs1 hn0) (.cell (.int _ _))
          · rcases q3 with ⟨_, rfl, a, ha⟩ | ⟨hl, c, cap, p1, p2, p3, p4, p5, p6, p7, p8, p9⟩
            · simp at hn0
            · rw [p1]
              rw [h1, Nat.mul_one] at p4
              have hmin0 : 0 < min ys.length l.length := Nat.pos_of_ne_zero hn0
              cases ad with
              | none =>
                have := d3 rfl
                subst this
                simp at d1
                omega
              | some a =>
                let k := min ys.length l.length
                have hk1 : k ≤ ys.length := Nat.min_le_left _ _
                have hk2 : k ≤ l.length := Nat.min_le_right _ _
                let cs := ds.take k
                have hcl : cs.length = k := by simp only [cs, List.length_take, d1]; exact Nat.min_eq_left hk1
                have hfit : 0 + cs.length ≤ c.size := by rw [hcl, p4]; omega
                have hrun := run_copy_row (P := C.P) w t t' ty e (K.ι id) 0 l.length cap a ys.length cx c e cs hu hs1 p5 (by rw [hcl]) (fun j v hj => by
                  simp only [cs, List.getElem?_take] at hj
                  split at hj
                  · exact d2 a rfl j v hj
                  · cases hj) hfit (fun u hu => d4 u (List.mem_of_mem_take hu))
                have hra : (c.toList.take 0 ++ cs ++ c.toList.drop (0 + cs.length)).toArray = rowAfter c 0 cs.toArray := by simp [rowAfter]
                rw [hra] at hrun
                have hfit' : 0 + cs.toArray.size ≤ c.size := by simpa using hfit
                have hxx : Ext K w K (w.setRow (K.ι id) (rowAfter c 0 cs.toArray)) := Ext.setRow h p5 (p8 rfl)
                refine ⟨K, _, _, hrun, hxx, Below.setRow _ p9, ?_, ?_⟩
                rotate_left
                · have : (goInt cs.length) = .int .i64 ((min ys.length l.length : Nat) : Int) := by simp only [goInt, hcl]; rfl
                  rw [this]; exact .cell (.int _ _)
                · refine h.set hin hxx rfl (fun j _ _ => ⟨rfl, rfl, rfl, rfl, rfl⟩) (fun b => .inl rfl) (fun j _ hk => setRow_other w _ j _ (hk hl)) (by rw [size_setRow]; exact Nat.le_refl _) (fun _ => .inl ⟨hl, rfl⟩) (fun b hb => h.new b (by rw [size_setRow] at hb; exact hb)) ?_
                  have hlen : (ys.take l.length ++ l.drop ys.length).length = l.length := by simp; omega
                  refine ⟨q1, q2, .inr ⟨hl, rowAfter c 0 cs.toArray, cap, by rw [hlen]; exact p1, by rw [hlen]; exact p2, p3, by rw [rowAfter_size _ _ _ hfit', h1, Nat.mul_one]; exact p4, setRow_heap w _ c _ e _ p5, fun i' x hi' j cl hj => ?_, ?_, fun _ => p8 rfl, p9⟩⟩
                  · have hjl : j < 1 := by rw [← h1, ← cellsOf_len hE t0 x]; exact (List.getElem?_eq_some_iff.1 hj).1
                    have hj0 : j = 0 := by omega
                    subst hj0
                    rw [h1, Nat.mul_one, Nat.add_zero, rowAfter_get _ _ _ hfit', List.size_toArray, hcl]
                    by_cases hik : i' < k
                    · rw [if_pos (by omega)]
                      rw [List.getElem?_append_left (by simp; omega), List.getElem?_take] at hi'
                      rw [if_pos (by omega)] at hi'
                      obtain ⟨v, r1, r2⟩ := d5 i' x hi' 0 cl hj
                      rw [h1, Nat.mul_one, Nat.add_zero] at r1
                      refine ⟨v, ?_, r2.mono hxx.σ hxx.cell⟩
                      simp only [Nat.sub_zero, List.getElem?_toArray, cs, List.getElem?_take, hik, if_true]
                      exact r1
                    · rw [if_neg (by omega)]
                      have hil : i' < l.length := by rw [← hlen]; exact (List.getElem?_eq_some_iff.1 hi').1
                      have hyl : ys.length ≤ i' := by simp only [k] at hik; omega
                      rw [List.getElem?_append_right (by simp; omega), List.getElem?_drop] at hi'
                      have : ys.length + (i' - (ys.take l.length).length) = i' := by simp; omega
                      rw [this] at hi'
                      obtain ⟨v, r1, r2⟩ := p6 i' x hi' 0 cl hj
                      rw [h1, Nat.mul_one, Nat.add_zero] at r1
                      exact ⟨v, r1, r2.mono hxx.σ hxx.cell⟩
                  · rw [p8 rfl]; exact Nat.zero_le _
        · simp [D.opt] at hx
      · simp [D.opt] at hx
    · simp [D.opt] at hx
  · simp [D.opt] at hx
end
end Go.Lv
