import Derived.Test.YticclmplpmgikaaDoorLvA5
import Derived.Test.YticclmplpmgikaaDoorLvArg
namespace Go.Lv.Ld
set_option linter.all false
open Go Go.Lv Go.IntWalk
set_option linter.unusedVariables false
set_option linter.unusedSimpArgs false
set_option maxRecDepth 100000

theorem lit_in {k : IntKind} {n : Int} (h : (Lit.int k n).wf = true) : k.min ≤ n ∧ n ≤ k.max := by
  simpa [Lit.wf] using h
theorem a_int {k : IntKind} {n : Int} (h : WfV E (.int k) n) : k.min ≤ n ∧ n ≤ k.max := by
  have h0 := h 0 ⟨.int k, n⟩ rfl
  cases h0 with
  | int _ _ h => exact lit_in h
theorem a_u32 {n : Int} (h : WfV E u32 n) : U32 n := by
  obtain ⟨h1, h2⟩ := a_int (k := .u32) h
  have e1 : IntKind.min .u32 = 0 := by decide
  have e2 : IntKind.max .u32 = 4294967295 := by decide
  unfold U32; omega
theorem a_u8 {n : Int} (h : WfV E (.int .u8) n) : 0 ≤ n ∧ n ≤ 255 := by
  obtain ⟨h1, h2⟩ := a_int (k := .u8) h
  have e1 : IntKind.min .u8 = 0 := by decide
  have e2 : IntKind.max .u8 = 255 := by decide
  omega
theorem a_blk {b : Block} (h : WfV E (.st 0) b) : U32 b.base := by
  have h0 := h 0 ⟨u32, b.base⟩ rfl
  have : WfV E u32 b.base := fun j c hc => by
    cases j with
    | zero => cases hc; exact h0
    | succ j => simp [cellsOf] at hc
  exact a_u32 this
theorem pure_AddrTexts (a : Int) (b : Block) (s : List UInt8) (ha : WfV E u32 a) (hb : WfV E (.st 0) b) (hs : WfV E .str s) : lodgerlaw04_AddrTexts a b s = some true := by
  have wa := a_u32 ha
  have wb := a_blk hb
  unfold lodgerlaw04_AddrTexts
  refine bnd awake_eq (cf rfl ?_)
  by_cases hl : (List.length s : Int) > 200
  · exact ct (decide_eq_true hl) (bnd awake_eq rfl)
  · refine cf (decide_eq_false hl) ?_
    have hs : s.length ≤ 1000 := by omega
    obtain ⟨r6, p6, q6⟩ := Parse_ps hs
    obtain ⟨r7, p7, q7⟩ := rParse_ps hs
    obtain ⟨r8, p8, q8⟩ := ParseBlock_pb hs
    obtain ⟨r9, p9, q9⟩ := rParseBlock_pb hs
    have e67 := PS_uniq q6 q7
    have e89 := PB_uniq q8 q9
    subst e67 e89
    refine bnd (BlockText_eq wb) (bnd (rBlockText_eq wb) (bnd p6 (bnd p7 (bnd p8 (bnd p9 (bnd (Text_eq wa) (bnd (rText_eq wa) ?_)))))))
    exact ct (by simp) (bnd (May_eq wb) (bnd (rMay_eq wb) (ct (by simp) (ct (by simp) (ct (by simp) (ct (by simp) (ct (by simp) (ct (by simp [ieq]) (by simp)))))))))

theorem pure_AddrBack (a b : Int) (c : Block) (s : List UInt8) (ha : WfV E u32 a) (hb : WfV E u32 b) (hc : WfV E (.st 0) c) (hs : WfV E .str s) : lodgerlaw04_AddrBack a b c s = some true := by
  have wa := a_u32 ha
  have wb := a_u32 hb
  have wc := a_blk hc
  unfold lodgerlaw04_AddrBack
  refine bnd awake_eq (cf rfl ?_)
  by_cases hl : (List.length s : Int) > 200
  · exact ct (decide_eq_true hl) (bnd awake_eq rfl)
  refine cf (decide_eq_false hl) ?_
  have hs : s.length ≤ 1000 := by omega
  have wa' := wa
  have wb' := wb
  unfold U32 at wa' wb'
  have pa : addr_Parse (tx a.toNat) = some (a, 0) := by
    have := Parse_tx (a := a.toNat) (by omega)
    rwa [Int.toNat_of_nonneg wa'.1] at this
  refine bnd (Text_eq wa) (bnd pa (cf rfl (cf (by simp) (bnd (Text_eq wa) (bnd (Text_eq wb) (cf ?_ ?_))))))
  · have : (tx a.toNat == tx b.toNat) = (a == b) := by
      rw [Bool.eq_iff_iff, beq_iff_eq, beq_iff_eq]
      exact ⟨fun q => by have := tx_inj (by omega) (by omega) q; omega, fun q => by rw [q]⟩
    rw [this]; simp
  -- the last question: of whatever text
  obtain ⟨r11, p11, q11⟩ := Parse_ps hs
  obtain ⟨r12, p12, q12⟩ := ParseBlock_pb hs
  have u12 : U32 r12.1.base := by
    rcases q12 with ⟨x, hx, _, rfl⟩ | ⟨_, rfl⟩
    · exact hx.1
    · unfold U32; simp
  have last : ((addr_Parse s).bind fun r11 => ((addr_ParseBlock s).bind fun r12 => ((addr_BlockText r12.1).bind fun r13 => (bif (r11.2 != 0) then (bif (r12.2 != 0) then (bif (r11.2 != 0) then some true else some (r12.2 != 0)) else (bif (r13.2 == 0) then (bif (r13.1 == s) then (bif (r11.2 != 0) then some true else some (r12.2 != 0)) else some false) else some false)) else ((addr_Text r11.1).bind fun r14 => (bif (r14 == s) then (bif (r12.2 != 0) then (bif (r11.2 != 0) then some true else some (r12.2 != 0)) else (bif (r13.2 == 0) then (bif (r13.1 == s) then (bif (r11.2 != 0) then some true else some (r12.2 != 0)) else some false) else some false)) else some false)))))) = some true := by
    refine bnd p11 (bnd p12 (bnd (BlockText_eq u12) ?_))
    rcases q11 with ⟨x, hx, ex, rfl⟩ | ⟨nx, rfl⟩
    · have h12 : r12 = (⟨0, 0⟩, 2) := by
        rcases q12 with ⟨y, hy, ey, rfl⟩ | ⟨_, rfl⟩
        · exfalso
          have := tx_no47 x
          rw [← ex, ey] at this
          exact this (by unfold btx; simp)
        · rfl
      subst h12
      refine cf rfl (bnd (Text_eq (by unfold U32; simp; omega)) (ct ?_ (ct rfl (cf rfl rfl))))
      rw [ex]; simp
    · refine ct rfl ?_
      rcases q12 with ⟨y, hy, ey, rfl⟩ | ⟨_, rfl⟩
      · rw [hy.2]
        refine cf rfl (ct rfl (ct ?_ (ct rfl rfl)))
        rw [ey]; simp
      · exact ct rfl (ct rfl rfl)
  refine bnd (BlockText_eq wc) ?_
  cases hm : mayb c with
  | false => exact cf rfl last
  | true =>
    have bk : BK c := ⟨wc, hm⟩
    have pc : addr_Parse (btx c) = some (0, 2) := by
      have hp := BK_pre bk
      have hlb : (btx c).length ≤ 1000 := by
        unfold btx
        have wc' := wc
        unfold U32 at wc'
        have h1 := (@tx_len c.base.toNat (by omega)).1
        have h2 := @D_len c.pre.toNat (by omega)
        simp; omega
      obtain ⟨r, h1, h2⟩ := Parse_ps hlb
      rcases h2 with ⟨x, hx, ex, _⟩ | ⟨_, rfl⟩
      · exfalso
        have := tx_no47 x
        rw [← ex] at this
        exact this (by unfold btx; simp)
      · exact h1
    exact ct rfl (bnd (ParseBlock_btx bk) (bnd pc (cf rfl (cf (by simp [ieq]) (cf rfl last)))))
end Go.Lv.Ld
