import Derived.Test.YtmmfioeadefceaaLvD3
import Derived.Test.YtmmfioeadefceaaChecked
import Derived.Test.YtmmfioeadefceaaLvGrow
namespace Go.Lv.Ld
open Go Go.Lv Go.Proofs
set_option linter.all false
set_option maxRecDepth 100000
def gtab : List (Nat × List (V S)) := []
def tab : List (Nat × Ty) := [(2, i64), (3, i64), (4, Ty.bool), (5, (Ty.int .u8)), (6, (Ty.int .u8)), (9, Ty.str), (10, Ty.str), (11, Ty.str), (12, u64), (20, Ty.err), (21, (Ty.int .i32)), (22, u32), (24, (Ty.st 0)), (25, (Ty.slice i64)), (27, (Ty.st 1)), (28, (Ty.slice u64)), (29, (Ty.slice (Ty.int .u16))), (33, (Ty.slice u32)), (34, (Ty.int .u16)), (36, (Ty.st 2)), (37, i64), (38, (Ty.slice i64)), (40, (Ty.st 3)), (41, u64), (43, (Ty.st 4)), (69, u64), (72, u64), (74, (Ty.slice (Ty.slice i64))), (90, (Ty.int .u8)), (91, (Ty.int .u8)), (94, (Ty.int .i32)), (95, (Ty.int .i32))]
theorem tabT : tab.all (tyB Try.prog E) = true := by kernel_rfl
theorem tabF : tab.all (tabB Try.prog E (tyL tab)) = true := by kernel_rfl
theorem mixed : Try.prog.follows .mixedOrders = true := Checked.mixed Try.checked
-- lodger/bits.Clear
def bits_Clear_b  (a0 : Int) (a1 : Int) : Option (Int) := (bif (decide ((IntKind.wrap .u64 a1) < 0)) then none else some (bit_andNot .u64 a0 (shl .u64 1 (IntKind.wrap .u64 a1))))
def sp_bits_Clear : Spec S := { args := [u64, i64], R := Int, run := run2 u64 i64 bits_Clear, enc := enc1 (S := S) u64 }
def spb_bits_Clear (F : Int → Int → Option (Int)) : Spec S := { args := [u64, i64], R := Int, run := run2 u64 i64 F, enc := enc1 (S := S) u64 }
def usb_bits_Clear  : List (Nat × Spec S) := []
def us_bits_Clear : List (Nat × Spec S) := []
noncomputable def Cb_bits_Clear  : Ctx S := { P := Try.prog, E := E, ty := tyL tab, G := glL gtab, spec := spL (usb_bits_Clear ), inl := inL [] }
noncomputable def C_bits_Clear : Ctx S := Cb_bits_Clear 
theorem evb_bits_Clear  (L : (St S → D (Int)) → Lp S (Int)) (a0 : Int) (a1 : Int) : (runWF (Cb_bits_Clear ) (clDF (Cb_bits_Clear ) 0) L 43 [u64] (res1 u64) [encV E u64 a0, encV E i64 a1]).opt = bits_Clear_b  a0 a1 := by kernel_rfl
theorem ev_bits_Clear (L : (St S → D (Int)) → Lp S (Int)) (a0 : Int) (a1 : Int) : (runW C_bits_Clear (clD C_bits_Clear 0) L 43 [u64] (res1 u64) [encV E u64 a0, encV E i64 a1]).opt = bits_Clear a0 a1 := (congrArg D.opt (runWF_eq _ _ L _ _ _ _)).trans (evb_bits_Clear  L a0 a1)
theorem ok_bits_Clear : SpecOK C_bits_Clear 43 sp_bits_Clear := by
  have hS := specs_ok (C := C_bits_Clear) (l := us_bits_Clear) rfl trivial
  refine spec_ok (C := C_bits_Clear) (cl := (clD C_bits_Clear 0)) (hd := (fun _ s => some s)) envOK (tyOK_of (l := tab) rfl tabT) hS (clD_ok envOK (tyOK_of (l := tab) rfl tabT) hS mixed (inl_ok (l := []) rfl (by kernel_rfl)) _) mixed HdOK.id (by kernel_rfl) [u64] (res1 u64) (de1 (S := S) u64) fun cs r h => ?_
  obtain ⟨a0, a1, rfl, h⟩ := inv2 h
  exact ⟨0, (ev_bits_Clear _ a0 a1).trans h⟩
-- (lodger/word.leaf).clear
def word_leaf__clear_b (g_bits_Clear : Int → Int → Option (Int)) (a0 : Int) (a1 : Int) : Option (Int) := ((g_bits_Clear a0 a1).bind fun r1 => some r1)
def sp_word_leaf__clear : Spec S := { args := [u64, i64], R := Int, run := run2 u64 i64 word_leaf__clear, enc := enc1 (S := S) u64 }
def spb_word_leaf__clear (F : Int → Int → Option (Int)) : Spec S := { args := [u64, i64], R := Int, run := run2 u64 i64 F, enc := enc1 (S := S) u64 }
def usb_word_leaf__clear (g_bits_Clear : Int → Int → Option (Int)) : List (Nat × Spec S) := [(43, spb_bits_Clear g_bits_Clear)]
def us_word_leaf__clear : List (Nat × Spec S) := [(43, sp_bits_Clear)]
noncomputable def Cb_word_leaf__clear (g_bits_Clear : Int → Int → Option (Int)) : Ctx S := { P := Try.prog, E := E, ty := tyL tab, G := glL gtab, spec := spL (usb_word_leaf__clear g_bits_Clear), inl := inL [] }
noncomputable def C_word_leaf__clear : Ctx S := Cb_word_leaf__clear bits_Clear
theorem evb_word_leaf__clear (g_bits_Clear : Int → Int → Option (Int)) (L : (St S → D (Int)) → Lp S (Int)) (a0 : Int) (a1 : Int) : (runWF (Cb_word_leaf__clear g_bits_Clear) (clDF (Cb_word_leaf__clear g_bits_Clear) 0) L 31 [u64] (res1 u64) [encV E u64 a0, encV E i64 a1]).opt = word_leaf__clear_b g_bits_Clear a0 a1 := by kernel_rfl
theorem ev_word_leaf__clear (L : (St S → D (Int)) → Lp S (Int)) (a0 : Int) (a1 : Int) : (runW C_word_leaf__clear (clD C_word_leaf__clear 0) L 31 [u64] (res1 u64) [encV E u64 a0, encV E i64 a1]).opt = word_leaf__clear a0 a1 := (congrArg D.opt (runWF_eq _ _ L _ _ _ _)).trans (evb_word_leaf__clear bits_Clear L a0 a1)
theorem ok_word_leaf__clear : SpecOK C_word_leaf__clear 31 sp_word_leaf__clear := by
  have hS := specs_ok (C := C_word_leaf__clear) (l := us_word_leaf__clear) rfl ⟨ok_bits_Clear.re rfl rfl rfl, trivial⟩
  refine spec_ok (C := C_word_leaf__clear) (cl := (clD C_word_leaf__clear 0)) (hd := (fun _ s => some s)) envOK (tyOK_of (l := tab) rfl tabT) hS (clD_ok envOK (tyOK_of (l := tab) rfl tabT) hS mixed (inl_ok (l := []) rfl (by kernel_rfl)) _) mixed HdOK.id (by kernel_rfl) [u64] (res1 u64) (de1 (S := S) u64) fun cs r h => ?_
  obtain ⟨a0, a1, rfl, h⟩ := inv2 h
  exact ⟨0, (ev_word_leaf__clear _ a0 a1).trans h⟩
-- lodger/word.Drop
def word_Drop_b (g_word_leaf__clear : Int → Int → Option (Int)) (a0 : Int) (a1 : Int) : Option (Int) := ((g_word_leaf__clear a0 a1).bind fun r1 => some (IntKind.wrap .u64 (r1 + 4294967296)))
def sp_word_Drop : Spec S := { args := [u64, i64], R := Int, run := run2 u64 i64 word_Drop, enc := enc1 (S := S) u64 }
def spb_word_Drop (F : Int → Int → Option (Int)) : Spec S := { args := [u64, i64], R := Int, run := run2 u64 i64 F, enc := enc1 (S := S) u64 }
def usb_word_Drop (g_word_leaf__clear : Int → Int → Option (Int)) : List (Nat × Spec S) := [(31, spb_word_leaf__clear g_word_leaf__clear)]
def us_word_Drop : List (Nat × Spec S) := [(31, sp_word_leaf__clear)]
noncomputable def Cb_word_Drop (g_word_leaf__clear : Int → Int → Option (Int)) : Ctx S := { P := Try.prog, E := E, ty := tyL tab, G := glL gtab, spec := spL (usb_word_Drop g_word_leaf__clear), inl := inL [30] }
noncomputable def C_word_Drop : Ctx S := Cb_word_Drop word_leaf__clear
theorem evb_word_Drop (g_word_leaf__clear : Int → Int → Option (Int)) (L : (St S → D (Int)) → Lp S (Int)) (a0 : Int) (a1 : Int) : (runWF (Cb_word_Drop g_word_leaf__clear) (clDF (Cb_word_Drop g_word_leaf__clear) 3) L 12 [u64] (res1 u64) [encV E u64 a0, encV E i64 a1]).opt = word_Drop_b g_word_leaf__clear a0 a1 := by kernel_rfl
theorem ev_word_Drop (L : (St S → D (Int)) → Lp S (Int)) (a0 : Int) (a1 : Int) : (runW C_word_Drop (clD C_word_Drop 3) L 12 [u64] (res1 u64) [encV E u64 a0, encV E i64 a1]).opt = word_Drop a0 a1 := (congrArg D.opt (runWF_eq _ _ L _ _ _ _)).trans (evb_word_Drop word_leaf__clear L a0 a1)
theorem ok_word_Drop : SpecOK C_word_Drop 12 sp_word_Drop := by
  have hS := specs_ok (C := C_word_Drop) (l := us_word_Drop) rfl ⟨ok_word_leaf__clear.re rfl rfl rfl, trivial⟩
  refine spec_ok (C := C_word_Drop) (cl := (clD C_word_Drop 3)) (hd := (fun _ s => some s)) envOK (tyOK_of (l := tab) rfl tabT) hS (clD_ok envOK (tyOK_of (l := tab) rfl tabT) hS mixed (inl_ok (l := [30]) rfl (by kernel_rfl)) _) mixed HdOK.id (by kernel_rfl) [u64] (res1 u64) (de1 (S := S) u64) fun cs r h => ?_
  obtain ⟨a0, a1, rfl, h⟩ := inv2 h
  exact ⟨0, (ev_word_Drop _ a0 a1).trans h⟩
-- lodger/bits.Count
def bits_Count_s0b  (k0 : Int → Int → Int → Int → Option (Int)) (s0 : Int) (s5 : Int) (s7 : Int) (s8 : Int) : Option (Int) := (bif (decide (s8 < s7)) then (bif (decide ((IntKind.wrap .u64 s8) < 0)) then none else k0 s0 (IntKind.wrap .i64 (s5 + (IntKind.wrap .i64 (bit_and .u64 (shr .u64 s0 (IntKind.wrap .u64 s8)) 1)))) s7 (IntKind.wrap .i64 (s8 + 1))) else some s5)
def bits_Count_eb  (k0 : Int → Int → Int → Int → Option (Int)) (a0 : Int) (a1 : Int) : Option (Int) := k0 a0 0 a1 0
def sp_bits_Count : Spec S := { args := [u64, i64], R := Int, run := run2 u64 i64 bits_Count, enc := enc1 (S := S) i64 }
def spb_bits_Count (F : Int → Int → Option (Int)) : Spec S := { args := [u64, i64], R := Int, run := run2 u64 i64 F, enc := enc1 (S := S) i64 }
def usb_bits_Count  : List (Nat × Spec S) := []
def us_bits_Count : List (Nat × Spec S) := []
noncomputable def Cb_bits_Count  : Ctx S := { P := Try.prog, E := E, ty := tyL tab, G := glL gtab, spec := spL (usb_bits_Count ), inl := inL [] }
noncomputable def C_bits_Count : Ctx S := Cb_bits_Count 
def hd_bits_Count : List ((Nat × Nat) × List Hs) := [((2, 3), [.canon 0 [] [0, 5, 7, 8], .plain 0 u64, .plain 5 i64, .plain 7 i64, .plain 8 i64])]
def h0_bits_Count (s0 : Int) (s5 : Int) (s7 : Int) (s8 : Int) : St S := { tmps := [.cell u64 s0, .undef, .undef, .undef, .undef, .cell i64 s5, .undef, .cell i64 s7, .cell i64 s8, .undef, .undef, .undef, .undef, .undef, .undef, .undef, .undef, .undef, .undef, .undef, .undef], mem := [] }
theorem rdb0_bits_Count  (L : Lp S (Int)) (s0 : Int) (s5 : Int) (s7 : Int) (s8 : Int) : (roundWF (Cb_bits_Count ) (clDF (Cb_bits_Count ) 0) (hdOf (Cb_bits_Count ) hd_bits_Count) 33 0 [i64] (res1 i64) L (h0_bits_Count s0 s5 s7 s8)).opt = bits_Count_s0b  (fun s0 s5 s7 s8 => (L (todoOf (Cb_bits_Count ) 33 0) (h0_bits_Count s0 s5 s7 s8)).opt) s0 s5 s7 s8 := by kernel_rfl
theorem rd0_bits_Count (L : Lp S (Int)) (s0 : Int) (s5 : Int) (s7 : Int) (s8 : Int) : (roundW C_bits_Count (clD C_bits_Count 0) (hdOf C_bits_Count hd_bits_Count) 33 0 [i64] (res1 i64) L (h0_bits_Count s0 s5 s7 s8)).opt = bits_Count_s0 (fun s0 s5 s7 s8 => (L (todoOf C_bits_Count 33 0) (h0_bits_Count s0 s5 s7 s8)).opt) s0 s5 s7 s8 := (congrArg D.opt (roundWF_eq _ _ _ _ _ _ _ L _)).trans (rdb0_bits_Count  L s0 s5 s7 s8)
theorem enb_bits_Count  (L : Lp S (Int)) (a0 : Int) (a1 : Int) : (runWF (Cb_bits_Count ) (clDF (Cb_bits_Count ) 0) (fun _ => canonL (hdOf (Cb_bits_Count ) hd_bits_Count) L) 33 [i64] (res1 i64) [encV E u64 a0, encV E i64 a1]).opt = bits_Count_eb  (fun s0 s5 s7 s8 => (L (todoOf (Cb_bits_Count ) 33 0) (h0_bits_Count s0 s5 s7 s8)).opt) a0 a1 := by kernel_rfl
theorem en_bits_Count (L : Lp S (Int)) (a0 : Int) (a1 : Int) : (runW C_bits_Count (clD C_bits_Count 0) (fun _ => canonL (hdOf C_bits_Count hd_bits_Count) L) 33 [i64] (res1 i64) [encV E u64 a0, encV E i64 a1]).opt = bits_Count_e (fun s0 s5 s7 s8 => (L (todoOf C_bits_Count 33 0) (h0_bits_Count s0 s5 s7 s8)).opt) a0 a1 := (congrArg D.opt (runWF_eq _ _ _ _ _ _ _)).trans (enb_bits_Count  L a0 a1)
theorem fx_bits_Count : ∀ n, (∀ (s0 : Int) (s5 : Int) (s7 : Int) (s8 : Int), (Lfix C_bits_Count (clD C_bits_Count 0) (hdOf C_bits_Count hd_bits_Count) (finW C_bits_Count 33 [i64] (res1 i64)) n (todoOf C_bits_Count 33 0) (h0_bits_Count s0 s5 s7 s8)).opt = bits_Count_l0 n s0 s5 s7 s8)
  | 0 => fun _ _ _ _ => rfl
  | n + 1 => by
    have ih := fx_bits_Count n
    have e0 : (fun s0 s5 s7 s8 => (Lfix C_bits_Count (clD C_bits_Count 0) (hdOf C_bits_Count hd_bits_Count) (finW C_bits_Count 33 [i64] (res1 i64)) n (todoOf C_bits_Count 33 0) (h0_bits_Count s0 s5 s7 s8)).opt) = bits_Count_l0 n := funext fun s0 => funext fun s5 => funext fun s7 => funext fun s8 => ih s0 s5 s7 s8
    exact fun s0 s5 s7 s8 => (congrArg D.opt (Lfix_round C_bits_Count (clD C_bits_Count 0) (hdOf C_bits_Count hd_bits_Count) 33 0 [i64] (res1 i64) n _)).trans ((rd0_bits_Count (Lfix C_bits_Count (clD C_bits_Count 0) (hdOf C_bits_Count hd_bits_Count) (finW C_bits_Count 33 [i64] (res1 i64)) n) s0 s5 s7 s8).trans (congrArg (fun x => bits_Count_s0  x  s0 s5 s7 s8) e0))
theorem ev_bits_Count (n : Nat) (a0 : Int) (a1 : Int) : (runF C_bits_Count (clD C_bits_Count 0) (hdOf C_bits_Count hd_bits_Count) 33 [i64] (res1 i64) n [encV E u64 a0, encV E i64 a1]).opt = bits_Count_n n a0 a1 := by
  have ih := fx_bits_Count n
  have e0 : (fun s0 s5 s7 s8 => (Lfix C_bits_Count (clD C_bits_Count 0) (hdOf C_bits_Count hd_bits_Count) (finW C_bits_Count 33 [i64] (res1 i64)) n (todoOf C_bits_Count 33 0) (h0_bits_Count s0 s5 s7 s8)).opt) = bits_Count_l0 n := funext fun s0 => funext fun s5 => funext fun s7 => funext fun s8 => ih s0 s5 s7 s8
  exact (congrArg D.opt (runF_eq C_bits_Count (clD C_bits_Count 0) (hdOf C_bits_Count hd_bits_Count) 33 [i64] (res1 i64) n _)).trans ((en_bits_Count (Lfix C_bits_Count (clD C_bits_Count 0) (hdOf C_bits_Count hd_bits_Count) (finW C_bits_Count 33 [i64] (res1 i64)) n) a0 a1).trans (congrArg (fun x => bits_Count_e  x  a0 a1) e0))
theorem ok_bits_Count : SpecOK C_bits_Count 33 sp_bits_Count := by
  have hS := specs_ok (C := C_bits_Count) (l := us_bits_Count) rfl trivial
  refine spec_ok (C := C_bits_Count) (cl := (clD C_bits_Count 0)) (hd := (hdOf C_bits_Count hd_bits_Count)) envOK (tyOK_of (l := tab) rfl tabT) hS (clD_ok envOK (tyOK_of (l := tab) rfl tabT) hS mixed (inl_ok (l := []) rfl (by kernel_rfl)) _) mixed (hdOf_ok envOK hd_bits_Count) (by kernel_rfl) [i64] (res1 i64) (de1 (S := S) i64) fun cs r h => ?_
  obtain ⟨a0, a1, rfl, h⟩ := inv2 h
  exact ⟨big, (ev_bits_Count big a0 a1).trans ((def_bits_Count a0 a1).symm.trans h)⟩
-- lodger/word.Full
def word_Full_b (g_bits_Count : Int → Int → Option (Int)) (a0 : Int) : Option (Bool) := ((g_bits_Count a0 32).bind fun r1 => some (r1 == 32))
def sp_word_Full : Spec S := { args := [u64], R := Bool, run := run1 u64 word_Full, enc := enc1 (S := S) Ty.bool }
def spb_word_Full (F : Int → Option (Bool)) : Spec S := { args := [u64], R := Bool, run := run1 u64 F, enc := enc1 (S := S) Ty.bool }
def usb_word_Full (g_bits_Count : Int → Int → Option (Int)) : List (Nat × Spec S) := [(33, spb_bits_Count g_bits_Count)]
def us_word_Full : List (Nat × Spec S) := [(33, sp_bits_Count)]
noncomputable def Cb_word_Full (g_bits_Count : Int → Int → Option (Int)) : Ctx S := { P := Try.prog, E := E, ty := tyL tab, G := glL gtab, spec := spL (usb_word_Full g_bits_Count), inl := inL [] }
noncomputable def C_word_Full : Ctx S := Cb_word_Full bits_Count
theorem evb_word_Full (g_bits_Count : Int → Int → Option (Int)) (L : (St S → D (Bool)) → Lp S (Bool)) (a0 : Int) : (runWF (Cb_word_Full g_bits_Count) (clDF (Cb_word_Full g_bits_Count) 0) L 17 [Ty.bool] (res1 Ty.bool) [encV E u64 a0]).opt = word_Full_b g_bits_Count a0 := by kernel_rfl
theorem ev_word_Full (L : (St S → D (Bool)) → Lp S (Bool)) (a0 : Int) : (runW C_word_Full (clD C_word_Full 0) L 17 [Ty.bool] (res1 Ty.bool) [encV E u64 a0]).opt = word_Full a0 := (congrArg D.opt (runWF_eq _ _ L _ _ _ _)).trans (evb_word_Full bits_Count L a0)
theorem ok_word_Full : SpecOK C_word_Full 17 sp_word_Full := by
  have hS := specs_ok (C := C_word_Full) (l := us_word_Full) rfl ⟨ok_bits_Count.re rfl rfl rfl, trivial⟩
  refine spec_ok (C := C_word_Full) (cl := (clD C_word_Full 0)) (hd := (fun _ s => some s)) envOK (tyOK_of (l := tab) rfl tabT) hS (clD_ok envOK (tyOK_of (l := tab) rfl tabT) hS mixed (inl_ok (l := []) rfl (by kernel_rfl)) _) mixed HdOK.id (by kernel_rfl) [Ty.bool] (res1 Ty.bool) (de1 (S := S) Ty.bool) fun cs r h => ?_
  obtain ⟨a0, rfl, h⟩ := inv1 h
  exact ⟨0, (ev_word_Full _ a0).trans h⟩
-- slices.Concat[[]lodger/api.Errno,lodger/api.Errno]
def slices_Concat_s0b  (k0 : (List (List Int)) → Int → (List (List Int)) → Int → Int → Option ((List Int))) (k1 : (List (List Int)) → Int → Int → (List Int) → Option ((List Int))) (s0 : (List (List Int))) (s3 : Int) (s9 : (List (List Int))) (s10 : Int) (s11 : Int) : Option ((List Int)) := (bif (decide (s11 < s10)) then ((geti s9 s11).bind fun x1 => (bif (decide ((IntKind.wrap .i64 (s3 + (List.length x1 : Int))) < 0)) then none else k0 s0 (IntKind.wrap .i64 (s3 + (List.length x1 : Int))) s9 s10 (IntKind.wrap .i64 (s11 + 1)))) else (bif (okLen s3) then k1 s0 (List.length s0 : Int) 0 ([] : (List Int)) else none))
def slices_Concat_s1b  (k0 : (List (List Int)) → Int → (List (List Int)) → Int → Int → Option ((List Int))) (k1 : (List (List Int)) → Int → Int → (List Int) → Option ((List Int))) (s25 : (List (List Int))) (s26 : Int) (s27 : Int) (m0 : (List Int)) : Option ((List Int)) := (bif (decide (s27 < s26)) then ((geti s25 s27).bind fun x2 => (bif (decide (m0.length + x2.length ≤ maxList)) then k1 s25 s26 (IntKind.wrap .i64 (s27 + 1)) (m0 ++ x2) else none)) else some m0)
def slices_Concat_eb  (k0 : (List (List Int)) → Int → (List (List Int)) → Int → Int → Option ((List Int))) (k1 : (List (List Int)) → Int → Int → (List Int) → Option ((List Int))) (a0 : (List (List Int))) : Option ((List Int)) := k0 a0 0 a0 (List.length a0 : Int) 0
def sp_slices_Concat : Spec S := { args := [(Ty.slice (Ty.slice i64))], R := (List Int), run := run1 (Ty.slice (Ty.slice i64)) slices_Concat, enc := enc1 (S := S) (Ty.slice i64) }
def spb_slices_Concat (F : (List (List Int)) → Option ((List Int))) : Spec S := { args := [(Ty.slice (Ty.slice i64))], R := (List Int), run := run1 (Ty.slice (Ty.slice i64)) F, enc := enc1 (S := S) (Ty.slice i64) }
def usb_slices_Concat  : List (Nat × Spec S) := []
def us_slices_Concat : List (Nat × Spec S) := []
noncomputable def Cb_slices_Concat  : Ctx S := { P := Try.prog, E := E, ty := tyL tab, G := glL gtab, spec := spL (usb_slices_Concat ), inl := inL [37] }
noncomputable def C_slices_Concat : Ctx S := Cb_slices_Concat 
end Go.Lv.Ld
namespace Go.Proofs
open Go.Shelf
def Try.growE37_ren : Go.Shelf.Ren := ⟨fun | 4 => 37 | n => n, fun | 22 => 38 | 25 => 37 | 3 => 3 | 4 => 4 | 9 => 9 | 20 => 20 | 0 => 0 | n => n, fun | n => n⟩
theorem Try.growE37 : Go.Proofs.Lays8.n4 Try.prog Try.growE37_ren := {
  mixed := by kernel_rfl
  f4 := ⟨Try.f37.name, by decide, Try.func37.trans (congrArg some (by kernel_rfl))⟩
  t0 := Try.underlying0
  a0 := Try.isAgg0
  z0 := Try.sizeOf0
  v0 := Try.zeroValue0
  t3 := Try.underlying3
  a3 := Try.isAgg3
  z3 := Try.sizeOf3
  v3 := Try.zeroValue3
  t4 := Try.underlying4
  a4 := Try.isAgg4
  z4 := Try.sizeOf4
  v4 := Try.zeroValue4
  t9 := Try.underlying9
  a9 := Try.isAgg9
  z9 := Try.sizeOf9
  v9 := Try.zeroValue9
  t20 := Try.underlying20
  a20 := Try.isAgg20
  z20 := Try.sizeOf20
  v20 := Try.zeroValue20
  t22 := Try.underlying38
  a22 := Try.isAgg38
  z22 := Try.sizeOf38
  v22 := Try.zeroValue38 }
end Go.Proofs
namespace Go.Lv.Ld
open Go Go.Lv Go.Proofs
set_option linter.all false
set_option maxRecDepth 100000
def hd_slices_Concat : List ((Nat × Nat) × List Hs) := [((2, 3), [.canon 0 [] [0, 3, 9, 10, 11], .plain 0 (Ty.slice (Ty.slice i64)), .plain 3 i64, .plain 9 (Ty.slice (Ty.slice i64)), .plain 10 i64, .plain 11 i64]), ((2, 11), [.canon 1 [0] [6, 25, 26, 27], .plain 25 (Ty.slice (Ty.slice i64)), .plain 26 i64, .plain 27 i64])]
def h0_slices_Concat (s0 : (List (List Int))) (s3 : Int) (s9 : (List (List Int))) (s10 : Int) (s11 : Int) : St S := { tmps := [.cell (Ty.slice (Ty.slice i64)) s0, .undef, .undef, .cell i64 s3, .undef, .undef, .undef, .undef, .undef, .cell (Ty.slice (Ty.slice i64)) s9, .cell i64 s10, .cell i64 s11, .undef, .undef, .undef, .undef, .undef, .undef, .undef, .undef, .undef, .undef, .undef, .undef, .undef, .undef, .undef, .undef, .undef, .undef, .undef, .undef, .undef, .undef, .undef, .undef], mem := [] }
def h1_slices_Concat (s25 : (List (List Int))) (s26 : Int) (s27 : Int) (m0 : (List Int)) : St S := { tmps := [.undef, .undef, .undef, .undef, .undef, .undef, .own 0 0, .undef, .undef, .undef, .undef, .undef, .undef, .undef, .undef, .undef, .undef, .undef, .undef, .undef, .undef, .undef, .undef, .undef, .undef, .cell (Ty.slice (Ty.slice i64)) s25, .cell i64 s26, .cell i64 s27, .undef, .undef, .undef, .undef, .undef, .undef, .undef, .undef], mem := [.arr 37 i64 m0 0 false] }
theorem rdb0_slices_Concat  (L : Lp S ((List Int))) (s0 : (List (List Int))) (s3 : Int) (s9 : (List (List Int))) (s10 : Int) (s11 : Int) : (roundWF (Cb_slices_Concat ) (growCl 37 37 i64) (hdOf (Cb_slices_Concat ) hd_slices_Concat) 23 0 [(Ty.slice i64)] (res1 (Ty.slice i64)) L (h0_slices_Concat s0 s3 s9 s10 s11)).opt = slices_Concat_s0b  (fun s0 s3 s9 s10 s11 => (L (todoOf (Cb_slices_Concat ) 23 0) (h0_slices_Concat s0 s3 s9 s10 s11)).opt) (fun s25 s26 s27 m0 => (L (todoOf (Cb_slices_Concat ) 23 1) (h1_slices_Concat s25 s26 s27 m0)).opt) s0 s3 s9 s10 s11 := by kernel_rfl
theorem rd0_slices_Concat (L : Lp S ((List Int))) (s0 : (List (List Int))) (s3 : Int) (s9 : (List (List Int))) (s10 : Int) (s11 : Int) : (roundW C_slices_Concat (growCl 37 37 i64) (hdOf C_slices_Concat hd_slices_Concat) 23 0 [(Ty.slice i64)] (res1 (Ty.slice i64)) L (h0_slices_Concat s0 s3 s9 s10 s11)).opt = slices_Concat_s0 (fun s0 s3 s9 s10 s11 => (L (todoOf C_slices_Concat 23 0) (h0_slices_Concat s0 s3 s9 s10 s11)).opt) (fun s25 s26 s27 m0 => (L (todoOf C_slices_Concat 23 1) (h1_slices_Concat s25 s26 s27 m0)).opt) s0 s3 s9 s10 s11 := (congrArg D.opt (roundWF_cl _ _ _ _ _ _ L _)).trans (rdb0_slices_Concat  L s0 s3 s9 s10 s11)
theorem rdb1_slices_Concat  (L : Lp S ((List Int))) (s25 : (List (List Int))) (s26 : Int) (s27 : Int) (m0 : (List Int)) : (roundWF (Cb_slices_Concat ) (growCl 37 37 i64) (hdOf (Cb_slices_Concat ) hd_slices_Concat) 23 1 [(Ty.slice i64)] (res1 (Ty.slice i64)) L (h1_slices_Concat s25 s26 s27 m0)).opt = slices_Concat_s1b  (fun s0 s3 s9 s10 s11 => (L (todoOf (Cb_slices_Concat ) 23 0) (h0_slices_Concat s0 s3 s9 s10 s11)).opt) (fun s25 s26 s27 m0 => (L (todoOf (Cb_slices_Concat ) 23 1) (h1_slices_Concat s25 s26 s27 m0)).opt) s25 s26 s27 m0 := by kernel_rfl
theorem rd1_slices_Concat (L : Lp S ((List Int))) (s25 : (List (List Int))) (s26 : Int) (s27 : Int) (m0 : (List Int)) : (roundW C_slices_Concat (growCl 37 37 i64) (hdOf C_slices_Concat hd_slices_Concat) 23 1 [(Ty.slice i64)] (res1 (Ty.slice i64)) L (h1_slices_Concat s25 s26 s27 m0)).opt = slices_Concat_s1 (fun s0 s3 s9 s10 s11 => (L (todoOf C_slices_Concat 23 0) (h0_slices_Concat s0 s3 s9 s10 s11)).opt) (fun s25 s26 s27 m0 => (L (todoOf C_slices_Concat 23 1) (h1_slices_Concat s25 s26 s27 m0)).opt) s25 s26 s27 m0 := (congrArg D.opt (roundWF_cl _ _ _ _ _ _ L _)).trans (rdb1_slices_Concat  L s25 s26 s27 m0)
theorem enb_slices_Concat  (L : Lp S ((List Int))) (a0 : (List (List Int))) : (runWF (Cb_slices_Concat ) (growCl 37 37 i64) (fun _ => canonL (hdOf (Cb_slices_Concat ) hd_slices_Concat) L) 23 [(Ty.slice i64)] (res1 (Ty.slice i64)) [encV E (Ty.slice (Ty.slice i64)) a0]).opt = slices_Concat_eb  (fun s0 s3 s9 s10 s11 => (L (todoOf (Cb_slices_Concat ) 23 0) (h0_slices_Concat s0 s3 s9 s10 s11)).opt) (fun s25 s26 s27 m0 => (L (todoOf (Cb_slices_Concat ) 23 1) (h1_slices_Concat s25 s26 s27 m0)).opt) a0 := by kernel_rfl
theorem en_slices_Concat (L : Lp S ((List Int))) (a0 : (List (List Int))) : (runW C_slices_Concat (growCl 37 37 i64) (fun _ => canonL (hdOf C_slices_Concat hd_slices_Concat) L) 23 [(Ty.slice i64)] (res1 (Ty.slice i64)) [encV E (Ty.slice (Ty.slice i64)) a0]).opt = slices_Concat_e (fun s0 s3 s9 s10 s11 => (L (todoOf C_slices_Concat 23 0) (h0_slices_Concat s0 s3 s9 s10 s11)).opt) (fun s25 s26 s27 m0 => (L (todoOf C_slices_Concat 23 1) (h1_slices_Concat s25 s26 s27 m0)).opt) a0 := (congrArg D.opt (runWF_cl _ _ _ _ _ _)).trans (enb_slices_Concat  L a0)
theorem fx_slices_Concat : ∀ n, (∀ (s0 : (List (List Int))) (s3 : Int) (s9 : (List (List Int))) (s10 : Int) (s11 : Int), (Lfix C_slices_Concat (growCl 37 37 i64) (hdOf C_slices_Concat hd_slices_Concat) (finW C_slices_Concat 23 [(Ty.slice i64)] (res1 (Ty.slice i64))) n (todoOf C_slices_Concat 23 0) (h0_slices_Concat s0 s3 s9 s10 s11)).opt = slices_Concat_l0 n s0 s3 s9 s10 s11) ∧ (∀ (s25 : (List (List Int))) (s26 : Int) (s27 : Int) (m0 : (List Int)), (Lfix C_slices_Concat (growCl 37 37 i64) (hdOf C_slices_Concat hd_slices_Concat) (finW C_slices_Concat 23 [(Ty.slice i64)] (res1 (Ty.slice i64))) n (todoOf C_slices_Concat 23 1) (h1_slices_Concat s25 s26 s27 m0)).opt = slices_Concat_l1 n s25 s26 s27 m0)
  | 0 => ⟨fun _ _ _ _ _ => rfl, fun _ _ _ _ => rfl⟩
  | n + 1 => by
    have ih := fx_slices_Concat n
    have e0 : (fun s0 s3 s9 s10 s11 => (Lfix C_slices_Concat (growCl 37 37 i64) (hdOf C_slices_Concat hd_slices_Concat) (finW C_slices_Concat 23 [(Ty.slice i64)] (res1 (Ty.slice i64))) n (todoOf C_slices_Concat 23 0) (h0_slices_Concat s0 s3 s9 s10 s11)).opt) = slices_Concat_l0 n := funext fun s0 => funext fun s3 => funext fun s9 => funext fun s10 => funext fun s11 => ih.1 s0 s3 s9 s10 s11
    have e1 : (fun s25 s26 s27 m0 => (Lfix C_slices_Concat (growCl 37 37 i64) (hdOf C_slices_Concat hd_slices_Concat) (finW C_slices_Concat 23 [(Ty.slice i64)] (res1 (Ty.slice i64))) n (todoOf C_slices_Concat 23 1) (h1_slices_Concat s25 s26 s27 m0)).opt) = slices_Concat_l1 n := funext fun s25 => funext fun s26 => funext fun s27 => funext fun m0 => ih.2 s25 s26 s27 m0
    exact ⟨fun s0 s3 s9 s10 s11 => (congrArg D.opt (Lfix_round C_slices_Concat (growCl 37 37 i64) (hdOf C_slices_Concat hd_slices_Concat) 23 0 [(Ty.slice i64)] (res1 (Ty.slice i64)) n _)).trans ((rd0_slices_Concat (Lfix C_slices_Concat (growCl 37 37 i64) (hdOf C_slices_Concat hd_slices_Concat) (finW C_slices_Concat 23 [(Ty.slice i64)] (res1 (Ty.slice i64))) n) s0 s3 s9 s10 s11).trans ((congrArg (fun x => slices_Concat_s0  x (fun s25 s26 s27 m0 => (Lfix C_slices_Concat (growCl 37 37 i64) (hdOf C_slices_Concat hd_slices_Concat) (finW C_slices_Concat 23 [(Ty.slice i64)] (res1 (Ty.slice i64))) n (todoOf C_slices_Concat 23 1) (h1_slices_Concat s25 s26 s27 m0)).opt) s0 s3 s9 s10 s11) e0).trans (congrArg (fun x => slices_Concat_s0 (slices_Concat_l0 n) x  s0 s3 s9 s10 s11) e1))), fun s25 s26 s27 m0 => (congrArg D.opt (Lfix_round C_slices_Concat (growCl 37 37 i64) (hdOf C_slices_Concat hd_slices_Concat) 23 1 [(Ty.slice i64)] (res1 (Ty.slice i64)) n _)).trans ((rd1_slices_Concat (Lfix C_slices_Concat (growCl 37 37 i64) (hdOf C_slices_Concat hd_slices_Concat) (finW C_slices_Concat 23 [(Ty.slice i64)] (res1 (Ty.slice i64))) n) s25 s26 s27 m0).trans ((congrArg (fun x => slices_Concat_s1  x (fun s25 s26 s27 m0 => (Lfix C_slices_Concat (growCl 37 37 i64) (hdOf C_slices_Concat hd_slices_Concat) (finW C_slices_Concat 23 [(Ty.slice i64)] (res1 (Ty.slice i64))) n (todoOf C_slices_Concat 23 1) (h1_slices_Concat s25 s26 s27 m0)).opt) s25 s26 s27 m0) e0).trans (congrArg (fun x => slices_Concat_s1 (slices_Concat_l0 n) x  s25 s26 s27 m0) e1)))⟩
theorem ev_slices_Concat (n : Nat) (a0 : (List (List Int))) : (runF C_slices_Concat (growCl 37 37 i64) (hdOf C_slices_Concat hd_slices_Concat) 23 [(Ty.slice i64)] (res1 (Ty.slice i64)) n [encV E (Ty.slice (Ty.slice i64)) a0]).opt = slices_Concat_n n a0 := by
  have ih := fx_slices_Concat n
  have e0 : (fun s0 s3 s9 s10 s11 => (Lfix C_slices_Concat (growCl 37 37 i64) (hdOf C_slices_Concat hd_slices_Concat) (finW C_slices_Concat 23 [(Ty.slice i64)] (res1 (Ty.slice i64))) n (todoOf C_slices_Concat 23 0) (h0_slices_Concat s0 s3 s9 s10 s11)).opt) = slices_Concat_l0 n := funext fun s0 => funext fun s3 => funext fun s9 => funext fun s10 => funext fun s11 => ih.1 s0 s3 s9 s10 s11
  have e1 : (fun s25 s26 s27 m0 => (Lfix C_slices_Concat (growCl 37 37 i64) (hdOf C_slices_Concat hd_slices_Concat) (finW C_slices_Concat 23 [(Ty.slice i64)] (res1 (Ty.slice i64))) n (todoOf C_slices_Concat 23 1) (h1_slices_Concat s25 s26 s27 m0)).opt) = slices_Concat_l1 n := funext fun s25 => funext fun s26 => funext fun s27 => funext fun m0 => ih.2 s25 s26 s27 m0
  exact (congrArg D.opt (runF_eq C_slices_Concat (growCl 37 37 i64) (hdOf C_slices_Concat hd_slices_Concat) 23 [(Ty.slice i64)] (res1 (Ty.slice i64)) n _)).trans ((en_slices_Concat (Lfix C_slices_Concat (growCl 37 37 i64) (hdOf C_slices_Concat hd_slices_Concat) (finW C_slices_Concat 23 [(Ty.slice i64)] (res1 (Ty.slice i64))) n) a0).trans ((congrArg (fun x => slices_Concat_e  x (fun s25 s26 s27 m0 => (Lfix C_slices_Concat (growCl 37 37 i64) (hdOf C_slices_Concat hd_slices_Concat) (finW C_slices_Concat 23 [(Ty.slice i64)] (res1 (Ty.slice i64))) n (todoOf C_slices_Concat 23 1) (h1_slices_Concat s25 s26 s27 m0)).opt) a0) e0).trans (congrArg (fun x => slices_Concat_e (slices_Concat_l0 n) x  a0) e1)))
theorem ok_slices_Concat : SpecOK C_slices_Concat 23 sp_slices_Concat := by
  have hS := specs_ok (C := C_slices_Concat) (l := us_slices_Concat) rfl trivial
  refine spec_ok (C := C_slices_Concat) (cl := (growCl 37 37 i64)) (hd := (hdOf C_slices_Concat hd_slices_Concat)) envOK (tyOK_of (l := tab) rfl tabT) hS (growCl_lay Try.growE37 envOK (tyOK_of (l := tab) rfl tabT) rfl (enters_of (by kernel_rfl)) rfl rfl rfl) mixed (hdOf_ok envOK hd_slices_Concat) (by kernel_rfl) [(Ty.slice i64)] (res1 (Ty.slice i64)) (de1 (S := S) (Ty.slice i64)) fun cs r h => ?_
  obtain ⟨a0, rfl, h⟩ := inv1 h
  exact ⟨big, (ev_slices_Concat big a0).trans ((def_slices_Concat a0).symm.trans h)⟩
-- lodger/cells.is
def cells_is_b  (a0 : (List Int)) (a1 : Int) : Option (Bool) := (bif (decide (a1 ≥ 0)) then some (decide (a1 < (List.length a0 : Int))) else some false)
def sp_cells_is : Spec S := { args := [(Ty.slice u64), i64], R := Bool, run := run2 (Ty.slice u64) i64 cells_is, enc := enc1 (S := S) Ty.bool }
def spb_cells_is (F : (List Int) → Int → Option (Bool)) : Spec S := { args := [(Ty.slice u64), i64], R := Bool, run := run2 (Ty.slice u64) i64 F, enc := enc1 (S := S) Ty.bool }
def usb_cells_is  : List (Nat × Spec S) := []
def us_cells_is : List (Nat × Spec S) := []
noncomputable def Cb_cells_is  : Ctx S := { P := Try.prog, E := E, ty := tyL tab, G := glL gtab, spec := spL (usb_cells_is ), inl := inL [] }
noncomputable def C_cells_is : Ctx S := Cb_cells_is 
theorem evb_cells_is  (L : (St S → D (Bool)) → Lp S (Bool)) (a0 : (List Int)) (a1 : Int) : (runWF (Cb_cells_is ) (clDF (Cb_cells_is ) 0) L 38 [Ty.bool] (res1 Ty.bool) [encV E (Ty.slice u64) a0, encV E i64 a1]).opt = cells_is_b  a0 a1 := by kernel_rfl
theorem ev_cells_is (L : (St S → D (Bool)) → Lp S (Bool)) (a0 : (List Int)) (a1 : Int) : (runW C_cells_is (clD C_cells_is 0) L 38 [Ty.bool] (res1 Ty.bool) [encV E (Ty.slice u64) a0, encV E i64 a1]).opt = cells_is a0 a1 := (congrArg D.opt (runWF_eq _ _ L _ _ _ _)).trans (evb_cells_is  L a0 a1)
theorem ok_cells_is : SpecOK C_cells_is 38 sp_cells_is := by
  have hS := specs_ok (C := C_cells_is) (l := us_cells_is) rfl trivial
  refine spec_ok (C := C_cells_is) (cl := (clD C_cells_is 0)) (hd := (fun _ s => some s)) envOK (tyOK_of (l := tab) rfl tabT) hS (clD_ok envOK (tyOK_of (l := tab) rfl tabT) hS mixed (inl_ok (l := []) rfl (by kernel_rfl)) _) mixed HdOK.id (by kernel_rfl) [Ty.bool] (res1 Ty.bool) (de1 (S := S) Ty.bool) fun cs r h => ?_
  obtain ⟨a0, a1, rfl, h⟩ := inv2 h
  exact ⟨0, (ev_cells_is _ a0 a1).trans h⟩
-- lodger/cells.Load
def cells_Load_b (g_cells_is : (List Int) → Int → Option (Bool)) (a0 : (List Int)) (a1 : Int) : Option (Int) := ((g_cells_is a0 a1).bind fun r1 => (bif (not r1) then some 0 else ((geti a0 a1).bind fun x2 => some x2)))
def sp_cells_Load : Spec S := { args := [(Ty.slice u64), i64], R := Int, run := run2 (Ty.slice u64) i64 cells_Load, enc := enc1 (S := S) u64 }
def spb_cells_Load (F : (List Int) → Int → Option (Int)) : Spec S := { args := [(Ty.slice u64), i64], R := Int, run := run2 (Ty.slice u64) i64 F, enc := enc1 (S := S) u64 }
def usb_cells_Load (g_cells_is : (List Int) → Int → Option (Bool)) : List (Nat × Spec S) := [(38, spb_cells_is g_cells_is)]
def us_cells_Load : List (Nat × Spec S) := [(38, sp_cells_is)]
noncomputable def Cb_cells_Load (g_cells_is : (List Int) → Int → Option (Bool)) : Ctx S := { P := Try.prog, E := E, ty := tyL tab, G := glL gtab, spec := spL (usb_cells_Load g_cells_is), inl := inL [] }
noncomputable def C_cells_Load : Ctx S := Cb_cells_Load cells_is
theorem evb_cells_Load (g_cells_is : (List Int) → Int → Option (Bool)) (L : (St S → D (Int)) → Lp S (Int)) (a0 : (List Int)) (a1 : Int) : (runWF (Cb_cells_Load g_cells_is) (clDF (Cb_cells_Load g_cells_is) 0) L 24 [u64] (res1 u64) [encV E (Ty.slice u64) a0, encV E i64 a1]).opt = cells_Load_b g_cells_is a0 a1 := by kernel_rfl
theorem ev_cells_Load (L : (St S → D (Int)) → Lp S (Int)) (a0 : (List Int)) (a1 : Int) : (runW C_cells_Load (clD C_cells_Load 0) L 24 [u64] (res1 u64) [encV E (Ty.slice u64) a0, encV E i64 a1]).opt = cells_Load a0 a1 := (congrArg D.opt (runWF_eq _ _ L _ _ _ _)).trans (evb_cells_Load cells_is L a0 a1)
theorem ok_cells_Load : SpecOK C_cells_Load 24 sp_cells_Load := by
  have hS := specs_ok (C := C_cells_Load) (l := us_cells_Load) rfl ⟨ok_cells_is.re rfl rfl rfl, trivial⟩
  refine spec_ok (C := C_cells_Load) (cl := (clD C_cells_Load 0)) (hd := (fun _ s => some s)) envOK (tyOK_of (l := tab) rfl tabT) hS (clD_ok envOK (tyOK_of (l := tab) rfl tabT) hS mixed (inl_ok (l := []) rfl (by kernel_rfl)) _) mixed HdOK.id (by kernel_rfl) [u64] (res1 u64) (de1 (S := S) u64) fun cs r h => ?_
  obtain ⟨a0, a1, rfl, h⟩ := inv2 h
  exact ⟨0, (ev_cells_Load _ a0 a1).trans h⟩
-- lodger/bits.Has
def bits_Has_b  (a0 : Int) (a1 : Int) : Option (Bool) := (bif (decide ((IntKind.wrap .u64 a1) < 0)) then none else some ((bit_and .u64 (shr .u64 a0 (IntKind.wrap .u64 a1)) 1) == 1))
def sp_bits_Has : Spec S := { args := [u64, i64], R := Bool, run := run2 u64 i64 bits_Has, enc := enc1 (S := S) Ty.bool }
def spb_bits_Has (F : Int → Int → Option (Bool)) : Spec S := { args := [u64, i64], R := Bool, run := run2 u64 i64 F, enc := enc1 (S := S) Ty.bool }
def usb_bits_Has  : List (Nat × Spec S) := []
def us_bits_Has : List (Nat × Spec S) := []
noncomputable def Cb_bits_Has  : Ctx S := { P := Try.prog, E := E, ty := tyL tab, G := glL gtab, spec := spL (usb_bits_Has ), inl := inL [] }
noncomputable def C_bits_Has : Ctx S := Cb_bits_Has 
theorem evb_bits_Has  (L : (St S → D (Bool)) → Lp S (Bool)) (a0 : Int) (a1 : Int) : (runWF (Cb_bits_Has ) (clDF (Cb_bits_Has ) 0) L 39 [Ty.bool] (res1 Ty.bool) [encV E u64 a0, encV E i64 a1]).opt = bits_Has_b  a0 a1 := by kernel_rfl
theorem ev_bits_Has (L : (St S → D (Bool)) → Lp S (Bool)) (a0 : Int) (a1 : Int) : (runW C_bits_Has (clD C_bits_Has 0) L 39 [Ty.bool] (res1 Ty.bool) [encV E u64 a0, encV E i64 a1]).opt = bits_Has a0 a1 := (congrArg D.opt (runWF_eq _ _ L _ _ _ _)).trans (evb_bits_Has  L a0 a1)
theorem ok_bits_Has : SpecOK C_bits_Has 39 sp_bits_Has := by
  have hS := specs_ok (C := C_bits_Has) (l := us_bits_Has) rfl trivial
  refine spec_ok (C := C_bits_Has) (cl := (clD C_bits_Has 0)) (hd := (fun _ s => some s)) envOK (tyOK_of (l := tab) rfl tabT) hS (clD_ok envOK (tyOK_of (l := tab) rfl tabT) hS mixed (inl_ok (l := []) rfl (by kernel_rfl)) _) mixed HdOK.id (by kernel_rfl) [Ty.bool] (res1 Ty.bool) (de1 (S := S) Ty.bool) fun cs r h => ?_
  obtain ⟨a0, a1, rfl, h⟩ := inv2 h
  exact ⟨0, (ev_bits_Has _ a0 a1).trans h⟩
-- lodger/word.Used
def word_Used_b (g_bits_Has : Int → Int → Option (Bool)) (a0 : Int) (a1 : Int) : Option (Bool) := ((g_bits_Has a0 a1).bind fun r1 => some r1)
def sp_word_Used : Spec S := { args := [u64, i64], R := Bool, run := run2 u64 i64 word_Used, enc := enc1 (S := S) Ty.bool }
def spb_word_Used (F : Int → Int → Option (Bool)) : Spec S := { args := [u64, i64], R := Bool, run := run2 u64 i64 F, enc := enc1 (S := S) Ty.bool }
def usb_word_Used (g_bits_Has : Int → Int → Option (Bool)) : List (Nat × Spec S) := [(39, spb_bits_Has g_bits_Has)]
def us_word_Used : List (Nat × Spec S) := [(39, sp_bits_Has)]
noncomputable def Cb_word_Used (g_bits_Has : Int → Int → Option (Bool)) : Ctx S := { P := Try.prog, E := E, ty := tyL tab, G := glL gtab, spec := spL (usb_word_Used g_bits_Has), inl := inL [] }
noncomputable def C_word_Used : Ctx S := Cb_word_Used bits_Has
theorem evb_word_Used (g_bits_Has : Int → Int → Option (Bool)) (L : (St S → D (Bool)) → Lp S (Bool)) (a0 : Int) (a1 : Int) : (runWF (Cb_word_Used g_bits_Has) (clDF (Cb_word_Used g_bits_Has) 0) L 25 [Ty.bool] (res1 Ty.bool) [encV E u64 a0, encV E i64 a1]).opt = word_Used_b g_bits_Has a0 a1 := by kernel_rfl
theorem ev_word_Used (L : (St S → D (Bool)) → Lp S (Bool)) (a0 : Int) (a1 : Int) : (runW C_word_Used (clD C_word_Used 0) L 25 [Ty.bool] (res1 Ty.bool) [encV E u64 a0, encV E i64 a1]).opt = word_Used a0 a1 := (congrArg D.opt (runWF_eq _ _ L _ _ _ _)).trans (evb_word_Used bits_Has L a0 a1)
theorem ok_word_Used : SpecOK C_word_Used 25 sp_word_Used := by
  have hS := specs_ok (C := C_word_Used) (l := us_word_Used) rfl ⟨ok_bits_Has.re rfl rfl rfl, trivial⟩
  refine spec_ok (C := C_word_Used) (cl := (clD C_word_Used 0)) (hd := (fun _ s => some s)) envOK (tyOK_of (l := tab) rfl tabT) hS (clD_ok envOK (tyOK_of (l := tab) rfl tabT) hS mixed (inl_ok (l := []) rfl (by kernel_rfl)) _) mixed HdOK.id (by kernel_rfl) [Ty.bool] (res1 Ty.bool) (de1 (S := S) Ty.bool) fun cs r h => ?_
  obtain ⟨a0, a1, rfl, h⟩ := inv2 h
  exact ⟨0, (ev_word_Used _ a0 a1).trans h⟩
-- lodger/block.Many
def block_Many_b  (a0 : Block) : Option (Int) := (bif (decide ((IntKind.wrap .u64 (IntKind.wrap .i64 (32 - a0.pre))) < 0)) then none else some (shl .i64 1 (IntKind.wrap .u64 (IntKind.wrap .i64 (32 - a0.pre)))))
def sp_block_Many : Spec S := { args := [(Ty.st 0)], R := Int, run := run1 (Ty.st 0) block_Many, enc := enc1 (S := S) i64 }
def spb_block_Many (F : Block → Option (Int)) : Spec S := { args := [(Ty.st 0)], R := Int, run := run1 (Ty.st 0) F, enc := enc1 (S := S) i64 }
def usb_block_Many  : List (Nat × Spec S) := []
def us_block_Many : List (Nat × Spec S) := []
noncomputable def Cb_block_Many  : Ctx S := { P := Try.prog, E := E, ty := tyL tab, G := glL gtab, spec := spL (usb_block_Many ), inl := inL [] }
noncomputable def C_block_Many : Ctx S := Cb_block_Many 
theorem evb_block_Many  (L : (St S → D (Int)) → Lp S (Int)) (a0 : Block) : (runWF (Cb_block_Many ) (clDF (Cb_block_Many ) 0) L 44 [i64] (res1 i64) [encV E (Ty.st 0) a0]).opt = block_Many_b  a0 := by kernel_rfl
theorem ev_block_Many (L : (St S → D (Int)) → Lp S (Int)) (a0 : Block) : (runW C_block_Many (clD C_block_Many 0) L 44 [i64] (res1 i64) [encV E (Ty.st 0) a0]).opt = block_Many a0 := (congrArg D.opt (runWF_eq _ _ L _ _ _ _)).trans (evb_block_Many  L a0)
theorem ok_block_Many : SpecOK C_block_Many 44 sp_block_Many := by
  have hS := specs_ok (C := C_block_Many) (l := us_block_Many) rfl trivial
  refine spec_ok (C := C_block_Many) (cl := (clD C_block_Many 0)) (hd := (fun _ s => some s)) envOK (tyOK_of (l := tab) rfl tabT) hS (clD_ok envOK (tyOK_of (l := tab) rfl tabT) hS mixed (inl_ok (l := []) rfl (by kernel_rfl)) _) mixed HdOK.id (by kernel_rfl) [i64] (res1 i64) (de1 (S := S) i64) fun cs r h => ?_
  obtain ⟨a0, rfl, h⟩ := inv1 h
  exact ⟨0, (ev_block_Many _ a0).trans h⟩
-- lodger/block.Offset
def block_Offset_b (g_block_Many : Block → Option (Int)) (a0 : Block) (a1 : Int) : Option (Int × Int) := (bif (decide ((IntKind.wrap .i64 ((IntKind.wrap .i64 a1) - (IntKind.wrap .i64 a0.base))) ≥ 0)) then ((g_block_Many a0).bind fun r1 => (bif (decide ((IntKind.wrap .i64 ((IntKind.wrap .i64 a1) - (IntKind.wrap .i64 a0.base))) < r1)) then some ((IntKind.wrap .i64 ((IntKind.wrap .i64 a1) - (IntKind.wrap .i64 a0.base))), 0) else some (0, 3))) else some (0, 3))
def sp_block_Offset : Spec S := { args := [(Ty.st 0), u32], R := Int × Int, run := run2 (Ty.st 0) u32 block_Offset, enc := enc2 (S := S) i64 i64 }
def spb_block_Offset (F : Block → Int → Option (Int × Int)) : Spec S := { args := [(Ty.st 0), u32], R := Int × Int, run := run2 (Ty.st 0) u32 F, enc := enc2 (S := S) i64 i64 }
def usb_block_Offset (g_block_Many : Block → Option (Int)) : List (Nat × Spec S) := [(44, spb_block_Many g_block_Many)]
def us_block_Offset : List (Nat × Spec S) := [(44, sp_block_Many)]
noncomputable def Cb_block_Offset (g_block_Many : Block → Option (Int)) : Ctx S := { P := Try.prog, E := E, ty := tyL tab, G := glL gtab, spec := spL (usb_block_Offset g_block_Many), inl := inL [] }
noncomputable def C_block_Offset : Ctx S := Cb_block_Offset block_Many
theorem evb_block_Offset (g_block_Many : Block → Option (Int)) (L : (St S → D (Int × Int)) → Lp S (Int × Int)) (a0 : Block) (a1 : Int) : (runWF (Cb_block_Offset g_block_Many) (clDF (Cb_block_Offset g_block_Many) 0) L 40 [i64, i64] (res2 i64 i64) [encV E (Ty.st 0) a0, encV E u32 a1]).opt = block_Offset_b g_block_Many a0 a1 := by kernel_rfl
theorem ev_block_Offset (L : (St S → D (Int × Int)) → Lp S (Int × Int)) (a0 : Block) (a1 : Int) : (runW C_block_Offset (clD C_block_Offset 0) L 40 [i64, i64] (res2 i64 i64) [encV E (Ty.st 0) a0, encV E u32 a1]).opt = block_Offset a0 a1 := (congrArg D.opt (runWF_eq _ _ L _ _ _ _)).trans (evb_block_Offset block_Many L a0 a1)
theorem ok_block_Offset : SpecOK C_block_Offset 40 sp_block_Offset := by
  have hS := specs_ok (C := C_block_Offset) (l := us_block_Offset) rfl ⟨ok_block_Many.re rfl rfl rfl, trivial⟩
  refine spec_ok (C := C_block_Offset) (cl := (clD C_block_Offset 0)) (hd := (fun _ s => some s)) envOK (tyOK_of (l := tab) rfl tabT) hS (clD_ok envOK (tyOK_of (l := tab) rfl tabT) hS mixed (inl_ok (l := []) rfl (by kernel_rfl)) _) mixed HdOK.id (by kernel_rfl) [i64, i64] (res2 i64 i64) (de2 (S := S) i64 i64) fun cs r h => ?_
  obtain ⟨a0, a1, rfl, h⟩ := inv2 h
  exact ⟨0, (ev_block_Offset _ a0 a1).trans h⟩
-- lodger/place.Leaf
def place_Leaf_b  (a0 : Int) : Option (Int × Int) := some ((IntKind.wrap .i64 (Int.tdiv a0 32)), (Int.tmod a0 32))
def sp_place_Leaf : Spec S := { args := [i64], R := Int × Int, run := run1 i64 place_Leaf, enc := enc2 (S := S) i64 i64 }
def spb_place_Leaf (F : Int → Option (Int × Int)) : Spec S := { args := [i64], R := Int × Int, run := run1 i64 F, enc := enc2 (S := S) i64 i64 }
def usb_place_Leaf  : List (Nat × Spec S) := []
def us_place_Leaf : List (Nat × Spec S) := []
noncomputable def Cb_place_Leaf  : Ctx S := { P := Try.prog, E := E, ty := tyL tab, G := glL gtab, spec := spL (usb_place_Leaf ), inl := inL [] }
noncomputable def C_place_Leaf : Ctx S := Cb_place_Leaf 
theorem evb_place_Leaf  (L : (St S → D (Int × Int)) → Lp S (Int × Int)) (a0 : Int) : (runWF (Cb_place_Leaf ) (clDF (Cb_place_Leaf ) 0) L 41 [i64, i64] (res2 i64 i64) [encV E i64 a0]).opt = place_Leaf_b  a0 := by kernel_rfl
theorem ev_place_Leaf (L : (St S → D (Int × Int)) → Lp S (Int × Int)) (a0 : Int) : (runW C_place_Leaf (clD C_place_Leaf 0) L 41 [i64, i64] (res2 i64 i64) [encV E i64 a0]).opt = place_Leaf a0 := (congrArg D.opt (runWF_eq _ _ L _ _ _ _)).trans (evb_place_Leaf  L a0)
theorem ok_place_Leaf : SpecOK C_place_Leaf 41 sp_place_Leaf := by
  have hS := specs_ok (C := C_place_Leaf) (l := us_place_Leaf) rfl trivial
  refine spec_ok (C := C_place_Leaf) (cl := (clD C_place_Leaf 0)) (hd := (fun _ s => some s)) envOK (tyOK_of (l := tab) rfl tabT) hS (clD_ok envOK (tyOK_of (l := tab) rfl tabT) hS mixed (inl_ok (l := []) rfl (by kernel_rfl)) _) mixed HdOK.id (by kernel_rfl) [i64, i64] (res2 i64 i64) (de2 (S := S) i64 i64) fun cs r h => ?_
  obtain ⟨a0, rfl, h⟩ := inv1 h
  exact ⟨0, (ev_place_Leaf _ a0).trans h⟩
-- lodger/hint.Goes
def hint_Goes_b (g_block_Offset : Block → Int → Option (Int × Int)) (g_place_Leaf : Int → Option (Int × Int)) (a0 : Conf) (a1 : Oq) : Option (Oq) := (bif (a1.ask.kind != 4) then some ({ a1 with phase := 0, word := 0, full := false, at_ := 0 } : Oq) else (bif (decide ((IntKind.wrap .i64 (a1.item + 1)) ≥ (List.length a1.ask.addrs : Int))) then some ({ a1 with phase := 0, word := 0, full := false, at_ := 0 } : Oq) else ((geti a1.ask.addrs (IntKind.wrap .i64 (a1.item + 1))).bind fun x1 => ((g_block_Offset a0.block x1).bind fun r2 => ((g_place_Leaf r2.1).bind fun r3 => some ({ a1 with phase := 8, leaf := r3.1, bit := r3.2, word := 0, full := false, at_ := 0, item := (IntKind.wrap .i64 (a1.item + 1)) } : Oq))))))
def sp_hint_Goes : Spec S := { args := [(Ty.st 1), (Ty.st 4)], R := Oq, run := run2 (Ty.st 1) (Ty.st 4) hint_Goes, enc := enc1 (S := S) (Ty.st 4) }
def spb_hint_Goes (F : Conf → Oq → Option (Oq)) : Spec S := { args := [(Ty.st 1), (Ty.st 4)], R := Oq, run := run2 (Ty.st 1) (Ty.st 4) F, enc := enc1 (S := S) (Ty.st 4) }
def usb_hint_Goes (g_block_Offset : Block → Int → Option (Int × Int)) (g_place_Leaf : Int → Option (Int × Int)) : List (Nat × Spec S) := [(40, spb_block_Offset g_block_Offset), (41, spb_place_Leaf g_place_Leaf)]
def us_hint_Goes : List (Nat × Spec S) := [(40, sp_block_Offset), (41, sp_place_Leaf)]
noncomputable def Cb_hint_Goes (g_block_Offset : Block → Int → Option (Int × Int)) (g_place_Leaf : Int → Option (Int × Int)) : Ctx S := { P := Try.prog, E := E, ty := tyL tab, G := glL gtab, spec := spL (usb_hint_Goes g_block_Offset g_place_Leaf), inl := inL [] }
noncomputable def C_hint_Goes : Ctx S := Cb_hint_Goes block_Offset place_Leaf
theorem evb_hint_Goes (g_block_Offset : Block → Int → Option (Int × Int)) (g_place_Leaf : Int → Option (Int × Int)) (L : (St S → D (Oq)) → Lp S (Oq)) (a0 : Conf) (a1 : Oq) : (runWF (Cb_hint_Goes g_block_Offset g_place_Leaf) (clDF (Cb_hint_Goes g_block_Offset g_place_Leaf) 0) L 26 [(Ty.st 4)] (res1 (Ty.st 4)) [encV E (Ty.st 1) a0, encV E (Ty.st 4) a1]).opt = hint_Goes_b g_block_Offset g_place_Leaf a0 a1 := by kernel_rfl
theorem ev_hint_Goes (L : (St S → D (Oq)) → Lp S (Oq)) (a0 : Conf) (a1 : Oq) : (runW C_hint_Goes (clD C_hint_Goes 0) L 26 [(Ty.st 4)] (res1 (Ty.st 4)) [encV E (Ty.st 1) a0, encV E (Ty.st 4) a1]).opt = hint_Goes a0 a1 := (congrArg D.opt (runWF_eq _ _ L _ _ _ _)).trans (evb_hint_Goes block_Offset place_Leaf L a0 a1)
theorem ok_hint_Goes : SpecOK C_hint_Goes 26 sp_hint_Goes := by
  have hS := specs_ok (C := C_hint_Goes) (l := us_hint_Goes) rfl ⟨ok_block_Offset.re rfl rfl rfl, ok_place_Leaf.re rfl rfl rfl, trivial⟩
  refine spec_ok (C := C_hint_Goes) (cl := (clD C_hint_Goes 0)) (hd := (fun _ s => some s)) envOK (tyOK_of (l := tab) rfl tabT) hS (clD_ok envOK (tyOK_of (l := tab) rfl tabT) hS mixed (inl_ok (l := []) rfl (by kernel_rfl)) _) mixed HdOK.id (by kernel_rfl) [(Ty.st 4)] (res1 (Ty.st 4)) (de1 (S := S) (Ty.st 4)) fun cs r h => ?_
  obtain ⟨a0, a1, rfl, h⟩ := inv2 h
  exact ⟨0, (ev_hint_Goes _ a0 a1).trans h⟩
-- lodger/cells.Store
def cells_Store_b (g_cells_is : (List Int) → Int → Option (Bool)) (a0 : (List Int)) (a1 : Int) (a2 : Int) : Option ((List Int)) := ((g_cells_is a0 a1).bind fun r1 => (bif (not r1) then some a0 else (bif (ieq (List.length a0 : Int) (List.length a0 : Int) && okLen (List.length a0 : Int)) then (bif (decide (0 ≤ a1 ∧ a1 < ((a0.take (List.replicate (Int.toNat (List.length a0 : Int)) (0 : Int)).length ++ (List.replicate (Int.toNat (List.length a0 : Int)) (0 : Int)).drop a0.length).length : Int))) then (((a0.take (List.replicate (Int.toNat (List.length a0 : Int)) (0 : Int)).length ++ (List.replicate (Int.toNat (List.length a0 : Int)) (0 : Int)).drop a0.length)[a1.toNat]?).bind fun x2 => (bif (decide (0 ≤ a1 ∧ a1 < ((a0.take (List.replicate (Int.toNat (List.length a0 : Int)) (0 : Int)).length ++ (List.replicate (Int.toNat (List.length a0 : Int)) (0 : Int)).drop a0.length).length : Int))) then (((a0.take (List.replicate (Int.toNat (List.length a0 : Int)) (0 : Int)).length ++ (List.replicate (Int.toNat (List.length a0 : Int)) (0 : Int)).drop a0.length)[a1.toNat]?).bind fun x3 => some ((a0.take (List.replicate (Int.toNat (List.length a0 : Int)) (0 : Int)).length ++ (List.replicate (Int.toNat (List.length a0 : Int)) (0 : Int)).drop a0.length).set a1.toNat a2)) else none)) else none) else none)))
def sp_cells_Store : Spec S := { args := [(Ty.slice u64), i64, u64], R := (List Int), run := run3 (Ty.slice u64) i64 u64 cells_Store, enc := enc1 (S := S) (Ty.slice u64) }
def spb_cells_Store (F : (List Int) → Int → Int → Option ((List Int))) : Spec S := { args := [(Ty.slice u64), i64, u64], R := (List Int), run := run3 (Ty.slice u64) i64 u64 F, enc := enc1 (S := S) (Ty.slice u64) }
def usb_cells_Store (g_cells_is : (List Int) → Int → Option (Bool)) : List (Nat × Spec S) := [(38, spb_cells_is g_cells_is)]
def us_cells_Store : List (Nat × Spec S) := [(38, sp_cells_is)]
noncomputable def Cb_cells_Store (g_cells_is : (List Int) → Int → Option (Bool)) : Ctx S := { P := Try.prog, E := E, ty := tyL tab, G := glL gtab, spec := spL (usb_cells_Store g_cells_is), inl := inL [45, 46] }
noncomputable def C_cells_Store : Ctx S := Cb_cells_Store cells_is
theorem evb_cells_Store (g_cells_is : (List Int) → Int → Option (Bool)) (L : (St S → D ((List Int))) → Lp S ((List Int))) (a0 : (List Int)) (a1 : Int) (a2 : Int) : (runWF (Cb_cells_Store g_cells_is) (clDF (Cb_cells_Store g_cells_is) 3) L 42 [(Ty.slice u64)] (res1 (Ty.slice u64)) [encV E (Ty.slice u64) a0, encV E i64 a1, encV E u64 a2]).opt = cells_Store_b g_cells_is a0 a1 a2 := by kernel_rfl
theorem ev_cells_Store (L : (St S → D ((List Int))) → Lp S ((List Int))) (a0 : (List Int)) (a1 : Int) (a2 : Int) : (runW C_cells_Store (clD C_cells_Store 3) L 42 [(Ty.slice u64)] (res1 (Ty.slice u64)) [encV E (Ty.slice u64) a0, encV E i64 a1, encV E u64 a2]).opt = cells_Store a0 a1 a2 := (congrArg D.opt (runWF_eq _ _ L _ _ _ _)).trans (evb_cells_Store cells_is L a0 a1 a2)
theorem ok_cells_Store : SpecOK C_cells_Store 42 sp_cells_Store := by
  have hS := specs_ok (C := C_cells_Store) (l := us_cells_Store) rfl ⟨ok_cells_is.re rfl rfl rfl, trivial⟩
  refine spec_ok (C := C_cells_Store) (cl := (clD C_cells_Store 3)) (hd := (fun _ s => some s)) envOK (tyOK_of (l := tab) rfl tabT) hS (clD_ok envOK (tyOK_of (l := tab) rfl tabT) hS mixed (inl_ok (l := [45, 46]) rfl (by kernel_rfl)) _) mixed HdOK.id (by kernel_rfl) [(Ty.slice u64)] (res1 (Ty.slice u64)) (de1 (S := S) (Ty.slice u64)) fun cs r h => ?_
  obtain ⟨a0, a1, a2, rfl, h⟩ := inv3 h
  exact ⟨0, (ev_cells_Store _ a0 a1 a2).trans h⟩
-- lodger/cells.Swap
def cells_Swap_b (g_cells_is : (List Int) → Int → Option (Bool)) (g_cells_Store : (List Int) → Int → Int → Option ((List Int))) (a0 : (List Int)) (a1 : Int) (a2 : Int) (a3 : Int) : Option ((List Int) × Bool) := ((g_cells_is a0 a1).bind fun r1 => (bif (not r1) then some (a0, false) else ((geti a0 a1).bind fun x2 => (bif (x2 != a2) then some (a0, false) else ((g_cells_Store a0 a1 a3).bind fun r3 => some (r3, true))))))
def sp_cells_Swap : Spec S := { args := [(Ty.slice u64), i64, u64, u64], R := (List Int) × Bool, run := run4 (Ty.slice u64) i64 u64 u64 cells_Swap, enc := enc2 (S := S) (Ty.slice u64) Ty.bool }
def spb_cells_Swap (F : (List Int) → Int → Int → Int → Option ((List Int) × Bool)) : Spec S := { args := [(Ty.slice u64), i64, u64, u64], R := (List Int) × Bool, run := run4 (Ty.slice u64) i64 u64 u64 F, enc := enc2 (S := S) (Ty.slice u64) Ty.bool }
def usb_cells_Swap (g_cells_is : (List Int) → Int → Option (Bool)) (g_cells_Store : (List Int) → Int → Int → Option ((List Int))) : List (Nat × Spec S) := [(38, spb_cells_is g_cells_is), (42, spb_cells_Store g_cells_Store)]
def us_cells_Swap : List (Nat × Spec S) := [(38, sp_cells_is), (42, sp_cells_Store)]
noncomputable def Cb_cells_Swap (g_cells_is : (List Int) → Int → Option (Bool)) (g_cells_Store : (List Int) → Int → Int → Option ((List Int))) : Ctx S := { P := Try.prog, E := E, ty := tyL tab, G := glL gtab, spec := spL (usb_cells_Swap g_cells_is g_cells_Store), inl := inL [] }
noncomputable def C_cells_Swap : Ctx S := Cb_cells_Swap cells_is cells_Store
theorem evb_cells_Swap (g_cells_is : (List Int) → Int → Option (Bool)) (g_cells_Store : (List Int) → Int → Int → Option ((List Int))) (L : (St S → D ((List Int) × Bool)) → Lp S ((List Int) × Bool)) (a0 : (List Int)) (a1 : Int) (a2 : Int) (a3 : Int) : (runWF (Cb_cells_Swap g_cells_is g_cells_Store) (clDF (Cb_cells_Swap g_cells_is g_cells_Store) 0) L 27 [(Ty.slice u64), Ty.bool] (res2 (Ty.slice u64) Ty.bool) [encV E (Ty.slice u64) a0, encV E i64 a1, encV E u64 a2, encV E u64 a3]).opt = cells_Swap_b g_cells_is g_cells_Store a0 a1 a2 a3 := by kernel_rfl
theorem ev_cells_Swap (L : (St S → D ((List Int) × Bool)) → Lp S ((List Int) × Bool)) (a0 : (List Int)) (a1 : Int) (a2 : Int) (a3 : Int) : (runW C_cells_Swap (clD C_cells_Swap 0) L 27 [(Ty.slice u64), Ty.bool] (res2 (Ty.slice u64) Ty.bool) [encV E (Ty.slice u64) a0, encV E i64 a1, encV E u64 a2, encV E u64 a3]).opt = cells_Swap a0 a1 a2 a3 := (congrArg D.opt (runWF_eq _ _ L _ _ _ _)).trans (evb_cells_Swap cells_is cells_Store L a0 a1 a2 a3)
theorem ok_cells_Swap : SpecOK C_cells_Swap 27 sp_cells_Swap := by
  have hS := specs_ok (C := C_cells_Swap) (l := us_cells_Swap) rfl ⟨ok_cells_is.re rfl rfl rfl, ok_cells_Store.re rfl rfl rfl, trivial⟩
  refine spec_ok (C := C_cells_Swap) (cl := (clD C_cells_Swap 0)) (hd := (fun _ s => some s)) envOK (tyOK_of (l := tab) rfl tabT) hS (clD_ok envOK (tyOK_of (l := tab) rfl tabT) hS mixed (inl_ok (l := []) rfl (by kernel_rfl)) _) mixed HdOK.id (by kernel_rfl) [(Ty.slice u64), Ty.bool] (res2 (Ty.slice u64) Ty.bool) (de2 (S := S) (Ty.slice u64) Ty.bool) fun cs r h => ?_
  obtain ⟨a0, a1, a2, a3, rfl, h⟩ := inv4 h
  exact ⟨0, (ev_cells_Swap _ a0 a1 a2 a3).trans h⟩
-- lodger/drop.Step
def drop_Step_b (g_word_Drop : Int → Int → Option (Int)) (g_word_Full : Int → Option (Bool)) (g_slices_Concat : (List (List Int)) → Option ((List Int))) (g_cells_Load : (List Int) → Int → Option (Int)) (g_word_Used : Int → Int → Option (Bool)) (g_hint_Goes : Conf → Oq → Option (Oq)) (g_cells_Swap : (List Int) → Int → Int → Int → Option ((List Int) × Bool)) (a0 : Conf) (a1 : (List Int)) (a2 : Oq) : Option ((List Int) × Oq × Bool) := (bif (a2.phase == 8) then ((g_cells_Load a1 a2.leaf).bind fun r1 => ((g_word_Used r1 a2.bit).bind fun r2 => (bif r2 then some (a1, ({ a2 with phase := 9, word := r1 } : Oq), false) else (bif (a2.ask.kind == 4) then ((g_slices_Concat ([a2.answer.errs, ([6] : List Int)] : List (List Int))).bind fun r3 => ((g_hint_Goes a0 ({ a2 with answer := ⟨a2.answer.err, a2.answer.addr, a2.answer.used, a2.answer.addrs, r3⟩ } : Oq)).bind fun r4 => some (a1, r4, true))) else ((g_hint_Goes a0 ({ a2 with answer := ⟨6, a2.answer.addr, a2.answer.used, a2.answer.addrs, a2.answer.errs⟩ } : Oq)).bind fun r5 => some (a1, r5, true)))))) else ((g_word_Drop a2.word a2.bit).bind fun r6 => ((g_cells_Swap a1 a2.leaf a2.word r6).bind fun r7 => (bif (not r7.2) then some (a1, ({ a2 with phase := 8, word := 0 } : Oq), false) else (bif (a2.ask.kind == 4) then ((g_slices_Concat ([a2.answer.errs, ([0] : List Int)] : List (List Int))).bind fun r8 => ((g_word_Full a2.word).bind fun r9 => (bif r9 then some (r7.1, ({ a2 with answer := ⟨a2.answer.err, a2.answer.addr, a2.answer.used, a2.answer.addrs, r8⟩, phase := 4, word := 0, full := false, at_ := 0 } : Oq), true) else ((g_hint_Goes a0 ({ a2 with answer := ⟨a2.answer.err, a2.answer.addr, a2.answer.used, a2.answer.addrs, r8⟩, word := 0 } : Oq)).bind fun r10 => some (r7.1, r10, true))))) else ((g_word_Full a2.word).bind fun r11 => (bif r11 then some (r7.1, ({ a2 with answer := ⟨0, a2.answer.addr, a2.answer.used, a2.answer.addrs, a2.answer.errs⟩, phase := 4, word := 0, full := false, at_ := 0 } : Oq), true) else ((g_hint_Goes a0 ({ a2 with answer := ⟨0, a2.answer.addr, a2.answer.used, a2.answer.addrs, a2.answer.errs⟩, word := 0 } : Oq)).bind fun r12 => some (r7.1, r12, true)))))))))
def sp_drop_Step : Spec S := { args := [(Ty.st 1), (Ty.slice u64), (Ty.st 4)], R := (List Int) × Oq × Bool, run := run3 (Ty.st 1) (Ty.slice u64) (Ty.st 4) drop_Step, enc := enc3 (S := S) (Ty.slice u64) (Ty.st 4) Ty.bool }
def spb_drop_Step (F : Conf → (List Int) → Oq → Option ((List Int) × Oq × Bool)) : Spec S := { args := [(Ty.st 1), (Ty.slice u64), (Ty.st 4)], R := (List Int) × Oq × Bool, run := run3 (Ty.st 1) (Ty.slice u64) (Ty.st 4) F, enc := enc3 (S := S) (Ty.slice u64) (Ty.st 4) Ty.bool }
def usb_drop_Step (g_word_Drop : Int → Int → Option (Int)) (g_word_Full : Int → Option (Bool)) (g_slices_Concat : (List (List Int)) → Option ((List Int))) (g_cells_Load : (List Int) → Int → Option (Int)) (g_word_Used : Int → Int → Option (Bool)) (g_hint_Goes : Conf → Oq → Option (Oq)) (g_cells_Swap : (List Int) → Int → Int → Int → Option ((List Int) × Bool)) : List (Nat × Spec S) := [(12, spb_word_Drop g_word_Drop), (17, spb_word_Full g_word_Full), (23, spb_slices_Concat g_slices_Concat), (24, spb_cells_Load g_cells_Load), (25, spb_word_Used g_word_Used), (26, spb_hint_Goes g_hint_Goes), (27, spb_cells_Swap g_cells_Swap)]
def us_drop_Step : List (Nat × Spec S) := [(12, sp_word_Drop), (17, sp_word_Full), (23, sp_slices_Concat), (24, sp_cells_Load), (25, sp_word_Used), (26, sp_hint_Goes), (27, sp_cells_Swap)]
noncomputable def Cb_drop_Step (g_word_Drop : Int → Int → Option (Int)) (g_word_Full : Int → Option (Bool)) (g_slices_Concat : (List (List Int)) → Option ((List Int))) (g_cells_Load : (List Int) → Int → Option (Int)) (g_word_Used : Int → Int → Option (Bool)) (g_hint_Goes : Conf → Oq → Option (Oq)) (g_cells_Swap : (List Int) → Int → Int → Int → Option ((List Int) × Bool)) : Ctx S := { P := Try.prog, E := E, ty := tyL tab, G := glL gtab, spec := spL (usb_drop_Step g_word_Drop g_word_Full g_slices_Concat g_cells_Load g_word_Used g_hint_Goes g_cells_Swap), inl := inL [22] }
noncomputable def C_drop_Step : Ctx S := Cb_drop_Step word_Drop word_Full slices_Concat cells_Load word_Used hint_Goes cells_Swap
theorem evb_drop_Step (g_word_Drop : Int → Int → Option (Int)) (g_word_Full : Int → Option (Bool)) (g_slices_Concat : (List (List Int)) → Option ((List Int))) (g_cells_Load : (List Int) → Int → Option (Int)) (g_word_Used : Int → Int → Option (Bool)) (g_hint_Goes : Conf → Oq → Option (Oq)) (g_cells_Swap : (List Int) → Int → Int → Int → Option ((List Int) × Bool)) (L : (St S → D ((List Int) × Oq × Bool)) → Lp S ((List Int) × Oq × Bool)) (a0 : Conf) (a1 : (List Int)) (a2 : Oq) : (runWF (Cb_drop_Step g_word_Drop g_word_Full g_slices_Concat g_cells_Load g_word_Used g_hint_Goes g_cells_Swap) (clDF (Cb_drop_Step g_word_Drop g_word_Full g_slices_Concat g_cells_Load g_word_Used g_hint_Goes g_cells_Swap) 3) L 9 [(Ty.slice u64), (Ty.st 4), Ty.bool] (res3 (Ty.slice u64) (Ty.st 4) Ty.bool) [encV E (Ty.st 1) a0, encV E (Ty.slice u64) a1, encV E (Ty.st 4) a2]).opt = drop_Step_b g_word_Drop g_word_Full g_slices_Concat g_cells_Load g_word_Used g_hint_Goes g_cells_Swap a0 a1 a2 := by kernel_rfl
theorem ev_drop_Step (L : (St S → D ((List Int) × Oq × Bool)) → Lp S ((List Int) × Oq × Bool)) (a0 : Conf) (a1 : (List Int)) (a2 : Oq) : (runW C_drop_Step (clD C_drop_Step 3) L 9 [(Ty.slice u64), (Ty.st 4), Ty.bool] (res3 (Ty.slice u64) (Ty.st 4) Ty.bool) [encV E (Ty.st 1) a0, encV E (Ty.slice u64) a1, encV E (Ty.st 4) a2]).opt = drop_Step a0 a1 a2 := (congrArg D.opt (runWF_eq _ _ L _ _ _ _)).trans (evb_drop_Step word_Drop word_Full slices_Concat cells_Load word_Used hint_Goes cells_Swap L a0 a1 a2)
theorem ok_drop_Step : SpecOK C_drop_Step 9 sp_drop_Step := by
  have hS := specs_ok (C := C_drop_Step) (l := us_drop_Step) rfl ⟨ok_word_Drop.re rfl rfl rfl, ok_word_Full.re rfl rfl rfl, ok_slices_Concat.re rfl rfl rfl, ok_cells_Load.re rfl rfl rfl, ok_word_Used.re rfl rfl rfl, ok_hint_Goes.re rfl rfl rfl, ok_cells_Swap.re rfl rfl rfl, trivial⟩
  refine spec_ok (C := C_drop_Step) (cl := (clD C_drop_Step 3)) (hd := (fun _ s => some s)) envOK (tyOK_of (l := tab) rfl tabT) hS (clD_ok envOK (tyOK_of (l := tab) rfl tabT) hS mixed (inl_ok (l := [22]) rfl (by kernel_rfl)) _) mixed HdOK.id (by kernel_rfl) [(Ty.slice u64), (Ty.st 4), Ty.bool] (res3 (Ty.slice u64) (Ty.st 4) Ty.bool) (de3 (S := S) (Ty.slice u64) (Ty.st 4) Ty.bool) fun cs r h => ?_
  obtain ⟨a0, a1, a2, rfl, h⟩ := inv3 h
  exact ⟨0, (ev_drop_Step _ a0 a1 a2).trans h⟩
-- lodger/lodgerref02.Same
def lodgerref02_Same_s0b  (k0 : (List Int) → (List Int) → Int → Option (Bool)) (s0 : (List Int)) (s1 : (List Int)) (s5 : Int) : Option (Bool) := (bif (decide (s5 < (List.length s0 : Int))) then ((geti s0 s5).bind fun x1 => ((geti s1 s5).bind fun x2 => (bif (x1 != x2) then some false else k0 s0 s1 (IntKind.wrap .i64 (s5 + 1))))) else some true)
def lodgerref02_Same_eb  (k0 : (List Int) → (List Int) → Int → Option (Bool)) (a0 : (List Int)) (a1 : (List Int)) : Option (Bool) := (bif ((List.length a0 : Int) != (List.length a1 : Int)) then some false else k0 a0 a1 0)
def sp_lodgerref02_Same : Spec S := { args := [(Ty.slice u64), (Ty.slice u64)], R := Bool, run := run2 (Ty.slice u64) (Ty.slice u64) lodgerref02_Same, enc := enc1 (S := S) Ty.bool }
def spb_lodgerref02_Same (F : (List Int) → (List Int) → Option (Bool)) : Spec S := { args := [(Ty.slice u64), (Ty.slice u64)], R := Bool, run := run2 (Ty.slice u64) (Ty.slice u64) F, enc := enc1 (S := S) Ty.bool }
def usb_lodgerref02_Same  : List (Nat × Spec S) := []
def us_lodgerref02_Same : List (Nat × Spec S) := []
noncomputable def Cb_lodgerref02_Same  : Ctx S := { P := Try.prog, E := E, ty := tyL tab, G := glL gtab, spec := spL (usb_lodgerref02_Same ), inl := inL [] }
noncomputable def C_lodgerref02_Same : Ctx S := Cb_lodgerref02_Same 
def hd_lodgerref02_Same : List ((Nat × Nat) × List Hs) := [((2, 4), [.canon 0 [] [0, 1, 5], .plain 0 (Ty.slice u64), .plain 1 (Ty.slice u64), .plain 5 i64])]
def h0_lodgerref02_Same (s0 : (List Int)) (s1 : (List Int)) (s5 : Int) : St S := { tmps := [.cell (Ty.slice u64) s0, .cell (Ty.slice u64) s1, .undef, .undef, .undef, .cell i64 s5, .undef, .undef, .undef, .undef, .undef, .undef, .undef, .undef, .undef, .undef, .undef, .undef, .undef, .undef, .undef, .undef, .undef, .undef, .undef, .undef], mem := [] }
theorem rdb0_lodgerref02_Same  (L : Lp S (Bool)) (s0 : (List Int)) (s1 : (List Int)) (s5 : Int) : (roundWF (Cb_lodgerref02_Same ) (clDF (Cb_lodgerref02_Same ) 0) (hdOf (Cb_lodgerref02_Same ) hd_lodgerref02_Same) 13 0 [Ty.bool] (res1 Ty.bool) L (h0_lodgerref02_Same s0 s1 s5)).opt = lodgerref02_Same_s0b  (fun s0 s1 s5 => (L (todoOf (Cb_lodgerref02_Same ) 13 0) (h0_lodgerref02_Same s0 s1 s5)).opt) s0 s1 s5 := by kernel_rfl
theorem rd0_lodgerref02_Same (L : Lp S (Bool)) (s0 : (List Int)) (s1 : (List Int)) (s5 : Int) : (roundW C_lodgerref02_Same (clD C_lodgerref02_Same 0) (hdOf C_lodgerref02_Same hd_lodgerref02_Same) 13 0 [Ty.bool] (res1 Ty.bool) L (h0_lodgerref02_Same s0 s1 s5)).opt = lodgerref02_Same_s0 (fun s0 s1 s5 => (L (todoOf C_lodgerref02_Same 13 0) (h0_lodgerref02_Same s0 s1 s5)).opt) s0 s1 s5 := (congrArg D.opt (roundWF_eq _ _ _ _ _ _ _ L _)).trans (rdb0_lodgerref02_Same  L s0 s1 s5)
theorem enb_lodgerref02_Same  (L : Lp S (Bool)) (a0 : (List Int)) (a1 : (List Int)) : (runWF (Cb_lodgerref02_Same ) (clDF (Cb_lodgerref02_Same ) 0) (fun _ => canonL (hdOf (Cb_lodgerref02_Same ) hd_lodgerref02_Same) L) 13 [Ty.bool] (res1 Ty.bool) [encV E (Ty.slice u64) a0, encV E (Ty.slice u64) a1]).opt = lodgerref02_Same_eb  (fun s0 s1 s5 => (L (todoOf (Cb_lodgerref02_Same ) 13 0) (h0_lodgerref02_Same s0 s1 s5)).opt) a0 a1 := by kernel_rfl
theorem en_lodgerref02_Same (L : Lp S (Bool)) (a0 : (List Int)) (a1 : (List Int)) : (runW C_lodgerref02_Same (clD C_lodgerref02_Same 0) (fun _ => canonL (hdOf C_lodgerref02_Same hd_lodgerref02_Same) L) 13 [Ty.bool] (res1 Ty.bool) [encV E (Ty.slice u64) a0, encV E (Ty.slice u64) a1]).opt = lodgerref02_Same_e (fun s0 s1 s5 => (L (todoOf C_lodgerref02_Same 13 0) (h0_lodgerref02_Same s0 s1 s5)).opt) a0 a1 := (congrArg D.opt (runWF_eq _ _ _ _ _ _ _)).trans (enb_lodgerref02_Same  L a0 a1)
theorem fx_lodgerref02_Same : ∀ n, (∀ (s0 : (List Int)) (s1 : (List Int)) (s5 : Int), (Lfix C_lodgerref02_Same (clD C_lodgerref02_Same 0) (hdOf C_lodgerref02_Same hd_lodgerref02_Same) (finW C_lodgerref02_Same 13 [Ty.bool] (res1 Ty.bool)) n (todoOf C_lodgerref02_Same 13 0) (h0_lodgerref02_Same s0 s1 s5)).opt = lodgerref02_Same_l0 n s0 s1 s5)
  | 0 => fun _ _ _ => rfl
  | n + 1 => by
    have ih := fx_lodgerref02_Same n
    have e0 : (fun s0 s1 s5 => (Lfix C_lodgerref02_Same (clD C_lodgerref02_Same 0) (hdOf C_lodgerref02_Same hd_lodgerref02_Same) (finW C_lodgerref02_Same 13 [Ty.bool] (res1 Ty.bool)) n (todoOf C_lodgerref02_Same 13 0) (h0_lodgerref02_Same s0 s1 s5)).opt) = lodgerref02_Same_l0 n := funext fun s0 => funext fun s1 => funext fun s5 => ih s0 s1 s5
    exact fun s0 s1 s5 => (congrArg D.opt (Lfix_round C_lodgerref02_Same (clD C_lodgerref02_Same 0) (hdOf C_lodgerref02_Same hd_lodgerref02_Same) 13 0 [Ty.bool] (res1 Ty.bool) n _)).trans ((rd0_lodgerref02_Same (Lfix C_lodgerref02_Same (clD C_lodgerref02_Same 0) (hdOf C_lodgerref02_Same hd_lodgerref02_Same) (finW C_lodgerref02_Same 13 [Ty.bool] (res1 Ty.bool)) n) s0 s1 s5).trans (congrArg (fun x => lodgerref02_Same_s0  x  s0 s1 s5) e0))
theorem ev_lodgerref02_Same (n : Nat) (a0 : (List Int)) (a1 : (List Int)) : (runF C_lodgerref02_Same (clD C_lodgerref02_Same 0) (hdOf C_lodgerref02_Same hd_lodgerref02_Same) 13 [Ty.bool] (res1 Ty.bool) n [encV E (Ty.slice u64) a0, encV E (Ty.slice u64) a1]).opt = lodgerref02_Same_n n a0 a1 := by
  have ih := fx_lodgerref02_Same n
  have e0 : (fun s0 s1 s5 => (Lfix C_lodgerref02_Same (clD C_lodgerref02_Same 0) (hdOf C_lodgerref02_Same hd_lodgerref02_Same) (finW C_lodgerref02_Same 13 [Ty.bool] (res1 Ty.bool)) n (todoOf C_lodgerref02_Same 13 0) (h0_lodgerref02_Same s0 s1 s5)).opt) = lodgerref02_Same_l0 n := funext fun s0 => funext fun s1 => funext fun s5 => ih s0 s1 s5
  exact (congrArg D.opt (runF_eq C_lodgerref02_Same (clD C_lodgerref02_Same 0) (hdOf C_lodgerref02_Same hd_lodgerref02_Same) 13 [Ty.bool] (res1 Ty.bool) n _)).trans ((en_lodgerref02_Same (Lfix C_lodgerref02_Same (clD C_lodgerref02_Same 0) (hdOf C_lodgerref02_Same hd_lodgerref02_Same) (finW C_lodgerref02_Same 13 [Ty.bool] (res1 Ty.bool)) n) a0 a1).trans (congrArg (fun x => lodgerref02_Same_e  x  a0 a1) e0))
theorem ok_lodgerref02_Same : SpecOK C_lodgerref02_Same 13 sp_lodgerref02_Same := by
  have hS := specs_ok (C := C_lodgerref02_Same) (l := us_lodgerref02_Same) rfl trivial
  refine spec_ok (C := C_lodgerref02_Same) (cl := (clD C_lodgerref02_Same 0)) (hd := (hdOf C_lodgerref02_Same hd_lodgerref02_Same)) envOK (tyOK_of (l := tab) rfl tabT) hS (clD_ok envOK (tyOK_of (l := tab) rfl tabT) hS mixed (inl_ok (l := []) rfl (by kernel_rfl)) _) mixed (hdOf_ok envOK hd_lodgerref02_Same) (by kernel_rfl) [Ty.bool] (res1 Ty.bool) (de1 (S := S) Ty.bool) fun cs r h => ?_
  obtain ⟨a0, a1, rfl, h⟩ := inv2 h
  exact ⟨big, (ev_lodgerref02_Same big a0 a1).trans ((def_lodgerref02_Same a0 a1).symm.trans h)⟩
-- lodger/lodgerref08.Errs
def lodgerref08_Errs_s0b  (k0 : (List Int) → (List Int) → Int → Option (Bool)) (s0 : (List Int)) (s1 : (List Int)) (s5 : Int) : Option (Bool) := (bif (decide (s5 < (List.length s0 : Int))) then ((geti s0 s5).bind fun x1 => ((geti s1 s5).bind fun x2 => (bif (x1 != x2) then some false else k0 s0 s1 (IntKind.wrap .i64 (s5 + 1))))) else some true)
def lodgerref08_Errs_eb  (k0 : (List Int) → (List Int) → Int → Option (Bool)) (a0 : (List Int)) (a1 : (List Int)) : Option (Bool) := (bif ((List.length a0 : Int) != (List.length a1 : Int)) then some false else k0 a0 a1 0)
def sp_lodgerref08_Errs : Spec S := { args := [(Ty.slice i64), (Ty.slice i64)], R := Bool, run := run2 (Ty.slice i64) (Ty.slice i64) lodgerref08_Errs, enc := enc1 (S := S) Ty.bool }
def spb_lodgerref08_Errs (F : (List Int) → (List Int) → Option (Bool)) : Spec S := { args := [(Ty.slice i64), (Ty.slice i64)], R := Bool, run := run2 (Ty.slice i64) (Ty.slice i64) F, enc := enc1 (S := S) Ty.bool }
def usb_lodgerref08_Errs  : List (Nat × Spec S) := []
def us_lodgerref08_Errs : List (Nat × Spec S) := []
noncomputable def Cb_lodgerref08_Errs  : Ctx S := { P := Try.prog, E := E, ty := tyL tab, G := glL gtab, spec := spL (usb_lodgerref08_Errs ), inl := inL [] }
noncomputable def C_lodgerref08_Errs : Ctx S := Cb_lodgerref08_Errs 
def hd_lodgerref08_Errs : List ((Nat × Nat) × List Hs) := [((2, 4), [.canon 0 [] [0, 1, 5], .plain 0 (Ty.slice i64), .plain 1 (Ty.slice i64), .plain 5 i64])]
def h0_lodgerref08_Errs (s0 : (List Int)) (s1 : (List Int)) (s5 : Int) : St S := { tmps := [.cell (Ty.slice i64) s0, .cell (Ty.slice i64) s1, .undef, .undef, .undef, .cell i64 s5, .undef, .undef, .undef, .undef, .undef, .undef, .undef, .undef, .undef, .undef, .undef, .undef, .undef, .undef, .undef, .undef, .undef, .undef, .undef, .undef], mem := [] }
theorem rdb0_lodgerref08_Errs  (L : Lp S (Bool)) (s0 : (List Int)) (s1 : (List Int)) (s5 : Int) : (roundWF (Cb_lodgerref08_Errs ) (clDF (Cb_lodgerref08_Errs ) 0) (hdOf (Cb_lodgerref08_Errs ) hd_lodgerref08_Errs) 16 0 [Ty.bool] (res1 Ty.bool) L (h0_lodgerref08_Errs s0 s1 s5)).opt = lodgerref08_Errs_s0b  (fun s0 s1 s5 => (L (todoOf (Cb_lodgerref08_Errs ) 16 0) (h0_lodgerref08_Errs s0 s1 s5)).opt) s0 s1 s5 := by kernel_rfl
theorem rd0_lodgerref08_Errs (L : Lp S (Bool)) (s0 : (List Int)) (s1 : (List Int)) (s5 : Int) : (roundW C_lodgerref08_Errs (clD C_lodgerref08_Errs 0) (hdOf C_lodgerref08_Errs hd_lodgerref08_Errs) 16 0 [Ty.bool] (res1 Ty.bool) L (h0_lodgerref08_Errs s0 s1 s5)).opt = lodgerref08_Errs_s0 (fun s0 s1 s5 => (L (todoOf C_lodgerref08_Errs 16 0) (h0_lodgerref08_Errs s0 s1 s5)).opt) s0 s1 s5 := (congrArg D.opt (roundWF_eq _ _ _ _ _ _ _ L _)).trans (rdb0_lodgerref08_Errs  L s0 s1 s5)
theorem enb_lodgerref08_Errs  (L : Lp S (Bool)) (a0 : (List Int)) (a1 : (List Int)) : (runWF (Cb_lodgerref08_Errs ) (clDF (Cb_lodgerref08_Errs ) 0) (fun _ => canonL (hdOf (Cb_lodgerref08_Errs ) hd_lodgerref08_Errs) L) 16 [Ty.bool] (res1 Ty.bool) [encV E (Ty.slice i64) a0, encV E (Ty.slice i64) a1]).opt = lodgerref08_Errs_eb  (fun s0 s1 s5 => (L (todoOf (Cb_lodgerref08_Errs ) 16 0) (h0_lodgerref08_Errs s0 s1 s5)).opt) a0 a1 := by kernel_rfl
theorem en_lodgerref08_Errs (L : Lp S (Bool)) (a0 : (List Int)) (a1 : (List Int)) : (runW C_lodgerref08_Errs (clD C_lodgerref08_Errs 0) (fun _ => canonL (hdOf C_lodgerref08_Errs hd_lodgerref08_Errs) L) 16 [Ty.bool] (res1 Ty.bool) [encV E (Ty.slice i64) a0, encV E (Ty.slice i64) a1]).opt = lodgerref08_Errs_e (fun s0 s1 s5 => (L (todoOf C_lodgerref08_Errs 16 0) (h0_lodgerref08_Errs s0 s1 s5)).opt) a0 a1 := (congrArg D.opt (runWF_eq _ _ _ _ _ _ _)).trans (enb_lodgerref08_Errs  L a0 a1)
theorem fx_lodgerref08_Errs : ∀ n, (∀ (s0 : (List Int)) (s1 : (List Int)) (s5 : Int), (Lfix C_lodgerref08_Errs (clD C_lodgerref08_Errs 0) (hdOf C_lodgerref08_Errs hd_lodgerref08_Errs) (finW C_lodgerref08_Errs 16 [Ty.bool] (res1 Ty.bool)) n (todoOf C_lodgerref08_Errs 16 0) (h0_lodgerref08_Errs s0 s1 s5)).opt = lodgerref08_Errs_l0 n s0 s1 s5)
  | 0 => fun _ _ _ => rfl
  | n + 1 => by
    have ih := fx_lodgerref08_Errs n
    have e0 : (fun s0 s1 s5 => (Lfix C_lodgerref08_Errs (clD C_lodgerref08_Errs 0) (hdOf C_lodgerref08_Errs hd_lodgerref08_Errs) (finW C_lodgerref08_Errs 16 [Ty.bool] (res1 Ty.bool)) n (todoOf C_lodgerref08_Errs 16 0) (h0_lodgerref08_Errs s0 s1 s5)).opt) = lodgerref08_Errs_l0 n := funext fun s0 => funext fun s1 => funext fun s5 => ih s0 s1 s5
    exact fun s0 s1 s5 => (congrArg D.opt (Lfix_round C_lodgerref08_Errs (clD C_lodgerref08_Errs 0) (hdOf C_lodgerref08_Errs hd_lodgerref08_Errs) 16 0 [Ty.bool] (res1 Ty.bool) n _)).trans ((rd0_lodgerref08_Errs (Lfix C_lodgerref08_Errs (clD C_lodgerref08_Errs 0) (hdOf C_lodgerref08_Errs hd_lodgerref08_Errs) (finW C_lodgerref08_Errs 16 [Ty.bool] (res1 Ty.bool)) n) s0 s1 s5).trans (congrArg (fun x => lodgerref08_Errs_s0  x  s0 s1 s5) e0))
theorem ev_lodgerref08_Errs (n : Nat) (a0 : (List Int)) (a1 : (List Int)) : (runF C_lodgerref08_Errs (clD C_lodgerref08_Errs 0) (hdOf C_lodgerref08_Errs hd_lodgerref08_Errs) 16 [Ty.bool] (res1 Ty.bool) n [encV E (Ty.slice i64) a0, encV E (Ty.slice i64) a1]).opt = lodgerref08_Errs_n n a0 a1 := by
  have ih := fx_lodgerref08_Errs n
  have e0 : (fun s0 s1 s5 => (Lfix C_lodgerref08_Errs (clD C_lodgerref08_Errs 0) (hdOf C_lodgerref08_Errs hd_lodgerref08_Errs) (finW C_lodgerref08_Errs 16 [Ty.bool] (res1 Ty.bool)) n (todoOf C_lodgerref08_Errs 16 0) (h0_lodgerref08_Errs s0 s1 s5)).opt) = lodgerref08_Errs_l0 n := funext fun s0 => funext fun s1 => funext fun s5 => ih s0 s1 s5
  exact (congrArg D.opt (runF_eq C_lodgerref08_Errs (clD C_lodgerref08_Errs 0) (hdOf C_lodgerref08_Errs hd_lodgerref08_Errs) 16 [Ty.bool] (res1 Ty.bool) n _)).trans ((en_lodgerref08_Errs (Lfix C_lodgerref08_Errs (clD C_lodgerref08_Errs 0) (hdOf C_lodgerref08_Errs hd_lodgerref08_Errs) (finW C_lodgerref08_Errs 16 [Ty.bool] (res1 Ty.bool)) n) a0 a1).trans (congrArg (fun x => lodgerref08_Errs_e  x  a0 a1) e0))
theorem ok_lodgerref08_Errs : SpecOK C_lodgerref08_Errs 16 sp_lodgerref08_Errs := by
  have hS := specs_ok (C := C_lodgerref08_Errs) (l := us_lodgerref08_Errs) rfl trivial
  refine spec_ok (C := C_lodgerref08_Errs) (cl := (clD C_lodgerref08_Errs 0)) (hd := (hdOf C_lodgerref08_Errs hd_lodgerref08_Errs)) envOK (tyOK_of (l := tab) rfl tabT) hS (clD_ok envOK (tyOK_of (l := tab) rfl tabT) hS mixed (inl_ok (l := []) rfl (by kernel_rfl)) _) mixed (hdOf_ok envOK hd_lodgerref08_Errs) (by kernel_rfl) [Ty.bool] (res1 Ty.bool) (de1 (S := S) Ty.bool) fun cs r h => ?_
  obtain ⟨a0, a1, rfl, h⟩ := inv2 h
  exact ⟨big, (ev_lodgerref08_Errs big a0 a1).trans ((def_lodgerref08_Errs a0 a1).symm.trans h)⟩
-- lodger/lodgerref04.Many
def lodgerref04_Many_s0b  (k0 : Int → Int → Option (Int)) (s3 : Int) (s4 : Int) : Option (Int) := (bif (decide (s4 < 32)) then k0 (IntKind.wrap .i64 (2 * s3)) (IntKind.wrap .i64 (s4 + 1)) else some s3)
def lodgerref04_Many_eb  (k0 : Int → Int → Option (Int)) (a0 : Int) : Option (Int) := k0 1 a0
def sp_lodgerref04_Many : Spec S := { args := [i64], R := Int, run := run1 i64 lodgerref04_Many, enc := enc1 (S := S) i64 }
def spb_lodgerref04_Many (F : Int → Option (Int)) : Spec S := { args := [i64], R := Int, run := run1 i64 F, enc := enc1 (S := S) i64 }
def usb_lodgerref04_Many  : List (Nat × Spec S) := []
def us_lodgerref04_Many : List (Nat × Spec S) := []
noncomputable def Cb_lodgerref04_Many  : Ctx S := { P := Try.prog, E := E, ty := tyL tab, G := glL gtab, spec := spL (usb_lodgerref04_Many ), inl := inL [] }
noncomputable def C_lodgerref04_Many : Ctx S := Cb_lodgerref04_Many 
def hd_lodgerref04_Many : List ((Nat × Nat) × List Hs) := [((2, 3), [.canon 0 [] [3, 4], .plain 3 i64, .plain 4 i64])]
def h0_lodgerref04_Many (s3 : Int) (s4 : Int) : St S := { tmps := [.undef, .undef, .undef, .cell i64 s3, .cell i64 s4, .undef, .undef, .undef, .undef, .undef, .undef, .undef, .undef], mem := [] }
theorem rdb0_lodgerref04_Many  (L : Lp S (Int)) (s3 : Int) (s4 : Int) : (roundWF (Cb_lodgerref04_Many ) (clDF (Cb_lodgerref04_Many ) 0) (hdOf (Cb_lodgerref04_Many ) hd_lodgerref04_Many) 21 0 [i64] (res1 i64) L (h0_lodgerref04_Many s3 s4)).opt = lodgerref04_Many_s0b  (fun s3 s4 => (L (todoOf (Cb_lodgerref04_Many ) 21 0) (h0_lodgerref04_Many s3 s4)).opt) s3 s4 := by kernel_rfl
theorem rd0_lodgerref04_Many (L : Lp S (Int)) (s3 : Int) (s4 : Int) : (roundW C_lodgerref04_Many (clD C_lodgerref04_Many 0) (hdOf C_lodgerref04_Many hd_lodgerref04_Many) 21 0 [i64] (res1 i64) L (h0_lodgerref04_Many s3 s4)).opt = lodgerref04_Many_s0 (fun s3 s4 => (L (todoOf C_lodgerref04_Many 21 0) (h0_lodgerref04_Many s3 s4)).opt) s3 s4 := (congrArg D.opt (roundWF_eq _ _ _ _ _ _ _ L _)).trans (rdb0_lodgerref04_Many  L s3 s4)
theorem enb_lodgerref04_Many  (L : Lp S (Int)) (a0 : Int) : (runWF (Cb_lodgerref04_Many ) (clDF (Cb_lodgerref04_Many ) 0) (fun _ => canonL (hdOf (Cb_lodgerref04_Many ) hd_lodgerref04_Many) L) 21 [i64] (res1 i64) [encV E i64 a0]).opt = lodgerref04_Many_eb  (fun s3 s4 => (L (todoOf (Cb_lodgerref04_Many ) 21 0) (h0_lodgerref04_Many s3 s4)).opt) a0 := by kernel_rfl
theorem en_lodgerref04_Many (L : Lp S (Int)) (a0 : Int) : (runW C_lodgerref04_Many (clD C_lodgerref04_Many 0) (fun _ => canonL (hdOf C_lodgerref04_Many hd_lodgerref04_Many) L) 21 [i64] (res1 i64) [encV E i64 a0]).opt = lodgerref04_Many_e (fun s3 s4 => (L (todoOf C_lodgerref04_Many 21 0) (h0_lodgerref04_Many s3 s4)).opt) a0 := (congrArg D.opt (runWF_eq _ _ _ _ _ _ _)).trans (enb_lodgerref04_Many  L a0)
theorem fx_lodgerref04_Many : ∀ n, (∀ (s3 : Int) (s4 : Int), (Lfix C_lodgerref04_Many (clD C_lodgerref04_Many 0) (hdOf C_lodgerref04_Many hd_lodgerref04_Many) (finW C_lodgerref04_Many 21 [i64] (res1 i64)) n (todoOf C_lodgerref04_Many 21 0) (h0_lodgerref04_Many s3 s4)).opt = lodgerref04_Many_l0 n s3 s4)
  | 0 => fun _ _ => rfl
  | n + 1 => by
    have ih := fx_lodgerref04_Many n
    have e0 : (fun s3 s4 => (Lfix C_lodgerref04_Many (clD C_lodgerref04_Many 0) (hdOf C_lodgerref04_Many hd_lodgerref04_Many) (finW C_lodgerref04_Many 21 [i64] (res1 i64)) n (todoOf C_lodgerref04_Many 21 0) (h0_lodgerref04_Many s3 s4)).opt) = lodgerref04_Many_l0 n := funext fun s3 => funext fun s4 => ih s3 s4
    exact fun s3 s4 => (congrArg D.opt (Lfix_round C_lodgerref04_Many (clD C_lodgerref04_Many 0) (hdOf C_lodgerref04_Many hd_lodgerref04_Many) 21 0 [i64] (res1 i64) n _)).trans ((rd0_lodgerref04_Many (Lfix C_lodgerref04_Many (clD C_lodgerref04_Many 0) (hdOf C_lodgerref04_Many hd_lodgerref04_Many) (finW C_lodgerref04_Many 21 [i64] (res1 i64)) n) s3 s4).trans (congrArg (fun x => lodgerref04_Many_s0  x  s3 s4) e0))
theorem ev_lodgerref04_Many (n : Nat) (a0 : Int) : (runF C_lodgerref04_Many (clD C_lodgerref04_Many 0) (hdOf C_lodgerref04_Many hd_lodgerref04_Many) 21 [i64] (res1 i64) n [encV E i64 a0]).opt = lodgerref04_Many_n n a0 := by
  have ih := fx_lodgerref04_Many n
  have e0 : (fun s3 s4 => (Lfix C_lodgerref04_Many (clD C_lodgerref04_Many 0) (hdOf C_lodgerref04_Many hd_lodgerref04_Many) (finW C_lodgerref04_Many 21 [i64] (res1 i64)) n (todoOf C_lodgerref04_Many 21 0) (h0_lodgerref04_Many s3 s4)).opt) = lodgerref04_Many_l0 n := funext fun s3 => funext fun s4 => ih s3 s4
  exact (congrArg D.opt (runF_eq C_lodgerref04_Many (clD C_lodgerref04_Many 0) (hdOf C_lodgerref04_Many hd_lodgerref04_Many) 21 [i64] (res1 i64) n _)).trans ((en_lodgerref04_Many (Lfix C_lodgerref04_Many (clD C_lodgerref04_Many 0) (hdOf C_lodgerref04_Many hd_lodgerref04_Many) (finW C_lodgerref04_Many 21 [i64] (res1 i64)) n) a0).trans (congrArg (fun x => lodgerref04_Many_e  x  a0) e0))
theorem ok_lodgerref04_Many : SpecOK C_lodgerref04_Many 21 sp_lodgerref04_Many := by
  have hS := specs_ok (C := C_lodgerref04_Many) (l := us_lodgerref04_Many) rfl trivial
  refine spec_ok (C := C_lodgerref04_Many) (cl := (clD C_lodgerref04_Many 0)) (hd := (hdOf C_lodgerref04_Many hd_lodgerref04_Many)) envOK (tyOK_of (l := tab) rfl tabT) hS (clD_ok envOK (tyOK_of (l := tab) rfl tabT) hS mixed (inl_ok (l := []) rfl (by kernel_rfl)) _) mixed (hdOf_ok envOK hd_lodgerref04_Many) (by kernel_rfl) [i64] (res1 i64) (de1 (S := S) i64) fun cs r h => ?_
  obtain ⟨a0, rfl, h⟩ := inv1 h
  exact ⟨big, (ev_lodgerref04_Many big a0).trans ((def_lodgerref04_Many a0).symm.trans h)⟩
-- lodger/lodgerref05.Many
def lodgerref05_Many_b (g_lodgerref04_Many : Int → Option (Int)) (a0 : Block) : Option (Int) := ((g_lodgerref04_Many a0.pre).bind fun r1 => some r1)
def sp_lodgerref05_Many : Spec S := { args := [(Ty.st 0)], R := Int, run := run1 (Ty.st 0) lodgerref05_Many, enc := enc1 (S := S) i64 }
def spb_lodgerref05_Many (F : Block → Option (Int)) : Spec S := { args := [(Ty.st 0)], R := Int, run := run1 (Ty.st 0) F, enc := enc1 (S := S) i64 }
def usb_lodgerref05_Many (g_lodgerref04_Many : Int → Option (Int)) : List (Nat × Spec S) := [(21, spb_lodgerref04_Many g_lodgerref04_Many)]
def us_lodgerref05_Many : List (Nat × Spec S) := [(21, sp_lodgerref04_Many)]
noncomputable def Cb_lodgerref05_Many (g_lodgerref04_Many : Int → Option (Int)) : Ctx S := { P := Try.prog, E := E, ty := tyL tab, G := glL gtab, spec := spL (usb_lodgerref05_Many g_lodgerref04_Many), inl := inL [] }
noncomputable def C_lodgerref05_Many : Ctx S := Cb_lodgerref05_Many lodgerref04_Many
theorem evb_lodgerref05_Many (g_lodgerref04_Many : Int → Option (Int)) (L : (St S → D (Int)) → Lp S (Int)) (a0 : Block) : (runWF (Cb_lodgerref05_Many g_lodgerref04_Many) (clDF (Cb_lodgerref05_Many g_lodgerref04_Many) 0) L 8 [i64] (res1 i64) [encV E (Ty.st 0) a0]).opt = lodgerref05_Many_b g_lodgerref04_Many a0 := by kernel_rfl
theorem ev_lodgerref05_Many (L : (St S → D (Int)) → Lp S (Int)) (a0 : Block) : (runW C_lodgerref05_Many (clD C_lodgerref05_Many 0) L 8 [i64] (res1 i64) [encV E (Ty.st 0) a0]).opt = lodgerref05_Many a0 := (congrArg D.opt (runWF_eq _ _ L _ _ _ _)).trans (evb_lodgerref05_Many lodgerref04_Many L a0)
theorem ok_lodgerref05_Many : SpecOK C_lodgerref05_Many 8 sp_lodgerref05_Many := by
  have hS := specs_ok (C := C_lodgerref05_Many) (l := us_lodgerref05_Many) rfl ⟨ok_lodgerref04_Many.re rfl rfl rfl, trivial⟩
  refine spec_ok (C := C_lodgerref05_Many) (cl := (clD C_lodgerref05_Many 0)) (hd := (fun _ s => some s)) envOK (tyOK_of (l := tab) rfl tabT) hS (clD_ok envOK (tyOK_of (l := tab) rfl tabT) hS mixed (inl_ok (l := []) rfl (by kernel_rfl)) _) mixed HdOK.id (by kernel_rfl) [i64] (res1 i64) (de1 (S := S) i64) fun cs r h => ?_
  obtain ⟨a0, rfl, h⟩ := inv1 h
  exact ⟨0, (ev_lodgerref05_Many _ a0).trans h⟩
-- lodger/lodgerref04.May
def lodgerref04_May_b (g_lodgerref04_Many : Int → Option (Int)) (a0 : Block) : Option (Bool) := (bif (decide (a0.pre ≥ 16)) then (bif (decide (a0.pre ≤ 32)) then ((g_lodgerref04_Many a0.pre).bind fun r1 => (bif (r1 == 0) then none else some ((Int.tmod (IntKind.wrap .i64 a0.base) r1) == 0))) else some false) else some false)
def sp_lodgerref04_May : Spec S := { args := [(Ty.st 0)], R := Bool, run := run1 (Ty.st 0) lodgerref04_May, enc := enc1 (S := S) Ty.bool }
def spb_lodgerref04_May (F : Block → Option (Bool)) : Spec S := { args := [(Ty.st 0)], R := Bool, run := run1 (Ty.st 0) F, enc := enc1 (S := S) Ty.bool }
def usb_lodgerref04_May (g_lodgerref04_Many : Int → Option (Int)) : List (Nat × Spec S) := [(21, spb_lodgerref04_Many g_lodgerref04_Many)]
def us_lodgerref04_May : List (Nat × Spec S) := [(21, sp_lodgerref04_Many)]
noncomputable def Cb_lodgerref04_May (g_lodgerref04_Many : Int → Option (Int)) : Ctx S := { P := Try.prog, E := E, ty := tyL tab, G := glL gtab, spec := spL (usb_lodgerref04_May g_lodgerref04_Many), inl := inL [] }
noncomputable def C_lodgerref04_May : Ctx S := Cb_lodgerref04_May lodgerref04_Many
theorem evb_lodgerref04_May (g_lodgerref04_Many : Int → Option (Int)) (L : (St S → D (Bool)) → Lp S (Bool)) (a0 : Block) : (runWF (Cb_lodgerref04_May g_lodgerref04_Many) (clDF (Cb_lodgerref04_May g_lodgerref04_Many) 0) L 34 [Ty.bool] (res1 Ty.bool) [encV E (Ty.st 0) a0]).opt = lodgerref04_May_b g_lodgerref04_Many a0 := by kernel_rfl
theorem ev_lodgerref04_May (L : (St S → D (Bool)) → Lp S (Bool)) (a0 : Block) : (runW C_lodgerref04_May (clD C_lodgerref04_May 0) L 34 [Ty.bool] (res1 Ty.bool) [encV E (Ty.st 0) a0]).opt = lodgerref04_May a0 := (congrArg D.opt (runWF_eq _ _ L _ _ _ _)).trans (evb_lodgerref04_May lodgerref04_Many L a0)
theorem ok_lodgerref04_May : SpecOK C_lodgerref04_May 34 sp_lodgerref04_May := by
  have hS := specs_ok (C := C_lodgerref04_May) (l := us_lodgerref04_May) rfl ⟨ok_lodgerref04_Many.re rfl rfl rfl, trivial⟩
  refine spec_ok (C := C_lodgerref04_May) (cl := (clD C_lodgerref04_May 0)) (hd := (fun _ s => some s)) envOK (tyOK_of (l := tab) rfl tabT) hS (clD_ok envOK (tyOK_of (l := tab) rfl tabT) hS mixed (inl_ok (l := []) rfl (by kernel_rfl)) _) mixed HdOK.id (by kernel_rfl) [Ty.bool] (res1 Ty.bool) (de1 (S := S) Ty.bool) fun cs r h => ?_
  obtain ⟨a0, rfl, h⟩ := inv1 h
  exact ⟨0, (ev_lodgerref04_May _ a0).trans h⟩
-- lodger/lodgerref05.May
def lodgerref05_May_s0b (g_lodgerref05_Many : Block → Option (Int)) (g_lodgerref04_May : Block → Option (Bool)) (k0 : Int → Conf → Option (Bool)) (s3 : Int) (m0 : Conf) : Option (Bool) := (bif (decide (s3 < (List.length m0.held : Int))) then ((geti m0.held s3).bind fun x2 => (bif (decide (x2 < 0)) then some false else ((geti m0.held s3).bind fun x3 => ((g_lodgerref05_Many m0.block).bind fun r4 => (bif (decide (x3 ≥ r4)) then some false else (bif (decide (s3 > 0)) then ((geti m0.held s3).bind fun x5 => ((geti m0.held (IntKind.wrap .i64 (s3 - 1))).bind fun x6 => (bif (decide (x5 ≤ x6)) then some false else k0 (IntKind.wrap .i64 (s3 + 1)) m0))) else k0 (IntKind.wrap .i64 (s3 + 1)) m0)))))) else some true)
def lodgerref05_May_eb (g_lodgerref05_Many : Block → Option (Int)) (g_lodgerref04_May : Block → Option (Bool)) (k0 : Int → Conf → Option (Bool)) (a0 : Conf) : Option (Bool) := ((g_lodgerref04_May a0.block).bind fun r1 => (bif (not r1) then some false else (bif (decide ((List.length a0.held : Int) > 64)) then some false else (bif (decide (a0.shards < 1)) then some false else (bif (decide (a0.shards > 64)) then some false else (bif (decide (a0.workers < 1)) then some false else (bif (decide (a0.workers > 64)) then some false else (bif (decide (a0.queue < 1)) then some false else (bif (decide (a0.queue > 64)) then some false else (bif (decide (a0.tries < 1)) then some false else (bif (decide (a0.tries > 8)) then some false else k0 0 a0)))))))))))
def sp_lodgerref05_May : Spec S := { args := [(Ty.st 1)], R := Bool, run := run1 (Ty.st 1) lodgerref05_May, enc := enc1 (S := S) Ty.bool }
def spb_lodgerref05_May (F : Conf → Option (Bool)) : Spec S := { args := [(Ty.st 1)], R := Bool, run := run1 (Ty.st 1) F, enc := enc1 (S := S) Ty.bool }
def usb_lodgerref05_May (g_lodgerref05_Many : Block → Option (Int)) (g_lodgerref04_May : Block → Option (Bool)) : List (Nat × Spec S) := [(8, spb_lodgerref05_Many g_lodgerref05_Many), (34, spb_lodgerref04_May g_lodgerref04_May)]
def us_lodgerref05_May : List (Nat × Spec S) := [(8, sp_lodgerref05_Many), (34, sp_lodgerref04_May)]
noncomputable def Cb_lodgerref05_May (g_lodgerref05_Many : Block → Option (Int)) (g_lodgerref04_May : Block → Option (Bool)) : Ctx S := { P := Try.prog, E := E, ty := tyL tab, G := glL gtab, spec := spL (usb_lodgerref05_May g_lodgerref05_Many g_lodgerref04_May), inl := inL [] }
noncomputable def C_lodgerref05_May : Ctx S := Cb_lodgerref05_May lodgerref05_Many lodgerref04_May
def hd_lodgerref05_May : List ((Nat × Nat) × List Hs) := [((2, 4), [.canon 1 [0] [1, 3], .plain 3 i64, .plainB 0 0 (Ty.st 1)])]
def h0_lodgerref05_May (s3 : Int) (m0 : Conf) : St S := { tmps := [.undef, .ptr 0 0, .undef, .cell i64 s3, .undef, .undef, .undef, .undef, .undef, .undef, .undef, .undef, .undef, .undef, .undef, .undef, .undef, .undef, .undef, .undef, .undef, .undef, .undef, .undef, .undef, .undef, .undef, .undef, .undef, .undef, .undef, .undef, .undef, .undef, .undef, .undef, .undef, .undef, .undef, .undef, .undef, .undef, .undef, .undef, .undef, .undef, .undef, .undef, .undef, .undef, .undef, .undef, .undef, .undef, .undef, .undef, .undef, .undef, .undef, .undef, .undef, .undef, .undef, .undef, .undef, .undef, .undef, .undef, .undef, .undef, .undef, .undef, .undef, .undef, .undef, .undef, .undef, .undef, .undef, .undef, .undef, .undef, .undef, .undef, .undef, .undef, .undef, .undef, .undef, .undef, .undef, .undef, .undef, .undef, .undef, .undef], mem := [.box [.cell u32 m0.block.base, .cell i64 m0.block.pre, .cell (Ty.slice i64) m0.held, .cell i64 m0.shards, .cell i64 m0.workers, .cell i64 m0.queue, .cell i64 m0.tries] false] }
theorem rdb0_lodgerref05_May (g_lodgerref05_Many : Block → Option (Int)) (g_lodgerref04_May : Block → Option (Bool)) (L : Lp S (Bool)) (s3 : Int) (m0 : Conf) : (roundWF (Cb_lodgerref05_May g_lodgerref05_Many g_lodgerref04_May) (clDF (Cb_lodgerref05_May g_lodgerref05_Many g_lodgerref04_May) 0) (hdOf (Cb_lodgerref05_May g_lodgerref05_Many g_lodgerref04_May) hd_lodgerref05_May) 19 0 [Ty.bool] (res1 Ty.bool) L (h0_lodgerref05_May s3 m0)).opt = lodgerref05_May_s0b g_lodgerref05_Many g_lodgerref04_May (fun s3 m0 => (L (todoOf (Cb_lodgerref05_May g_lodgerref05_Many g_lodgerref04_May) 19 0) (h0_lodgerref05_May s3 m0)).opt) s3 m0 := by kernel_rfl
theorem rd0_lodgerref05_May (L : Lp S (Bool)) (s3 : Int) (m0 : Conf) : (roundW C_lodgerref05_May (clD C_lodgerref05_May 0) (hdOf C_lodgerref05_May hd_lodgerref05_May) 19 0 [Ty.bool] (res1 Ty.bool) L (h0_lodgerref05_May s3 m0)).opt = lodgerref05_May_s0 (fun s3 m0 => (L (todoOf C_lodgerref05_May 19 0) (h0_lodgerref05_May s3 m0)).opt) s3 m0 := (congrArg D.opt (roundWF_eq _ _ _ _ _ _ _ L _)).trans (rdb0_lodgerref05_May lodgerref05_Many lodgerref04_May L s3 m0)
theorem enb_lodgerref05_May (g_lodgerref05_Many : Block → Option (Int)) (g_lodgerref04_May : Block → Option (Bool)) (L : Lp S (Bool)) (a0 : Conf) : (runWF (Cb_lodgerref05_May g_lodgerref05_Many g_lodgerref04_May) (clDF (Cb_lodgerref05_May g_lodgerref05_Many g_lodgerref04_May) 0) (fun _ => canonL (hdOf (Cb_lodgerref05_May g_lodgerref05_Many g_lodgerref04_May) hd_lodgerref05_May) L) 19 [Ty.bool] (res1 Ty.bool) [encV E (Ty.st 1) a0]).opt = lodgerref05_May_eb g_lodgerref05_Many g_lodgerref04_May (fun s3 m0 => (L (todoOf (Cb_lodgerref05_May g_lodgerref05_Many g_lodgerref04_May) 19 0) (h0_lodgerref05_May s3 m0)).opt) a0 := by kernel_rfl
theorem en_lodgerref05_May (L : Lp S (Bool)) (a0 : Conf) : (runW C_lodgerref05_May (clD C_lodgerref05_May 0) (fun _ => canonL (hdOf C_lodgerref05_May hd_lodgerref05_May) L) 19 [Ty.bool] (res1 Ty.bool) [encV E (Ty.st 1) a0]).opt = lodgerref05_May_e (fun s3 m0 => (L (todoOf C_lodgerref05_May 19 0) (h0_lodgerref05_May s3 m0)).opt) a0 := (congrArg D.opt (runWF_eq _ _ _ _ _ _ _)).trans (enb_lodgerref05_May lodgerref05_Many lodgerref04_May L a0)
theorem fx_lodgerref05_May : ∀ n, (∀ (s3 : Int) (m0 : Conf), (Lfix C_lodgerref05_May (clD C_lodgerref05_May 0) (hdOf C_lodgerref05_May hd_lodgerref05_May) (finW C_lodgerref05_May 19 [Ty.bool] (res1 Ty.bool)) n (todoOf C_lodgerref05_May 19 0) (h0_lodgerref05_May s3 m0)).opt = lodgerref05_May_l0 n s3 m0)
  | 0 => fun _ _ => rfl
  | n + 1 => by
    have ih := fx_lodgerref05_May n
    have e0 : (fun s3 m0 => (Lfix C_lodgerref05_May (clD C_lodgerref05_May 0) (hdOf C_lodgerref05_May hd_lodgerref05_May) (finW C_lodgerref05_May 19 [Ty.bool] (res1 Ty.bool)) n (todoOf C_lodgerref05_May 19 0) (h0_lodgerref05_May s3 m0)).opt) = lodgerref05_May_l0 n := funext fun s3 => funext fun m0 => ih s3 m0
    exact fun s3 m0 => (congrArg D.opt (Lfix_round C_lodgerref05_May (clD C_lodgerref05_May 0) (hdOf C_lodgerref05_May hd_lodgerref05_May) 19 0 [Ty.bool] (res1 Ty.bool) n _)).trans ((rd0_lodgerref05_May (Lfix C_lodgerref05_May (clD C_lodgerref05_May 0) (hdOf C_lodgerref05_May hd_lodgerref05_May) (finW C_lodgerref05_May 19 [Ty.bool] (res1 Ty.bool)) n) s3 m0).trans (congrArg (fun x => lodgerref05_May_s0  x  s3 m0) e0))
theorem ev_lodgerref05_May (n : Nat) (a0 : Conf) : (runF C_lodgerref05_May (clD C_lodgerref05_May 0) (hdOf C_lodgerref05_May hd_lodgerref05_May) 19 [Ty.bool] (res1 Ty.bool) n [encV E (Ty.st 1) a0]).opt = lodgerref05_May_n n a0 := by
  have ih := fx_lodgerref05_May n
  have e0 : (fun s3 m0 => (Lfix C_lodgerref05_May (clD C_lodgerref05_May 0) (hdOf C_lodgerref05_May hd_lodgerref05_May) (finW C_lodgerref05_May 19 [Ty.bool] (res1 Ty.bool)) n (todoOf C_lodgerref05_May 19 0) (h0_lodgerref05_May s3 m0)).opt) = lodgerref05_May_l0 n := funext fun s3 => funext fun m0 => ih s3 m0
  exact (congrArg D.opt (runF_eq C_lodgerref05_May (clD C_lodgerref05_May 0) (hdOf C_lodgerref05_May hd_lodgerref05_May) 19 [Ty.bool] (res1 Ty.bool) n _)).trans ((en_lodgerref05_May (Lfix C_lodgerref05_May (clD C_lodgerref05_May 0) (hdOf C_lodgerref05_May hd_lodgerref05_May) (finW C_lodgerref05_May 19 [Ty.bool] (res1 Ty.bool)) n) a0).trans (congrArg (fun x => lodgerref05_May_e  x  a0) e0))
theorem ok_lodgerref05_May : SpecOK C_lodgerref05_May 19 sp_lodgerref05_May := by
  have hS := specs_ok (C := C_lodgerref05_May) (l := us_lodgerref05_May) rfl ⟨ok_lodgerref05_Many.re rfl rfl rfl, ok_lodgerref04_May.re rfl rfl rfl, trivial⟩
  refine spec_ok (C := C_lodgerref05_May) (cl := (clD C_lodgerref05_May 0)) (hd := (hdOf C_lodgerref05_May hd_lodgerref05_May)) envOK (tyOK_of (l := tab) rfl tabT) hS (clD_ok envOK (tyOK_of (l := tab) rfl tabT) hS mixed (inl_ok (l := []) rfl (by kernel_rfl)) _) mixed (hdOf_ok envOK hd_lodgerref05_May) (by kernel_rfl) [Ty.bool] (res1 Ty.bool) (de1 (S := S) Ty.bool) fun cs r h => ?_
  obtain ⟨a0, rfl, h⟩ := inv1 h
  exact ⟨big, (ev_lodgerref05_May big a0).trans ((def_lodgerref05_May a0).symm.trans h)⟩
-- lodger/lodgerref06.Leaves
def lodgerref06_Leaves_s0b  (k0 : Int → Int → Option (Int)) (s0 : Int) (s3 : Int) : Option (Int) := (bif (decide ((IntKind.wrap .i64 (32 * s3)) < s0)) then k0 s0 (IntKind.wrap .i64 (s3 + 1)) else some s3)
def lodgerref06_Leaves_eb  (k0 : Int → Int → Option (Int)) (a0 : Int) : Option (Int) := k0 a0 0
def sp_lodgerref06_Leaves : Spec S := { args := [i64], R := Int, run := run1 i64 lodgerref06_Leaves, enc := enc1 (S := S) i64 }
def spb_lodgerref06_Leaves (F : Int → Option (Int)) : Spec S := { args := [i64], R := Int, run := run1 i64 F, enc := enc1 (S := S) i64 }
def usb_lodgerref06_Leaves  : List (Nat × Spec S) := []
def us_lodgerref06_Leaves : List (Nat × Spec S) := []
noncomputable def Cb_lodgerref06_Leaves  : Ctx S := { P := Try.prog, E := E, ty := tyL tab, G := glL gtab, spec := spL (usb_lodgerref06_Leaves ), inl := inL [] }
noncomputable def C_lodgerref06_Leaves : Ctx S := Cb_lodgerref06_Leaves 
def hd_lodgerref06_Leaves : List ((Nat × Nat) × List Hs) := [((2, 2), [.canon 0 [] [0, 3], .plain 0 i64, .plain 3 i64])]
def h0_lodgerref06_Leaves (s0 : Int) (s3 : Int) : St S := { tmps := [.cell i64 s0, .undef, .undef, .cell i64 s3, .undef, .undef, .undef, .undef, .undef, .undef, .undef], mem := [] }
theorem rdb0_lodgerref06_Leaves  (L : Lp S (Int)) (s0 : Int) (s3 : Int) : (roundWF (Cb_lodgerref06_Leaves ) (clDF (Cb_lodgerref06_Leaves ) 0) (hdOf (Cb_lodgerref06_Leaves ) hd_lodgerref06_Leaves) 35 0 [i64] (res1 i64) L (h0_lodgerref06_Leaves s0 s3)).opt = lodgerref06_Leaves_s0b  (fun s0 s3 => (L (todoOf (Cb_lodgerref06_Leaves ) 35 0) (h0_lodgerref06_Leaves s0 s3)).opt) s0 s3 := by kernel_rfl
theorem rd0_lodgerref06_Leaves (L : Lp S (Int)) (s0 : Int) (s3 : Int) : (roundW C_lodgerref06_Leaves (clD C_lodgerref06_Leaves 0) (hdOf C_lodgerref06_Leaves hd_lodgerref06_Leaves) 35 0 [i64] (res1 i64) L (h0_lodgerref06_Leaves s0 s3)).opt = lodgerref06_Leaves_s0 (fun s0 s3 => (L (todoOf C_lodgerref06_Leaves 35 0) (h0_lodgerref06_Leaves s0 s3)).opt) s0 s3 := (congrArg D.opt (roundWF_eq _ _ _ _ _ _ _ L _)).trans (rdb0_lodgerref06_Leaves  L s0 s3)
theorem enb_lodgerref06_Leaves  (L : Lp S (Int)) (a0 : Int) : (runWF (Cb_lodgerref06_Leaves ) (clDF (Cb_lodgerref06_Leaves ) 0) (fun _ => canonL (hdOf (Cb_lodgerref06_Leaves ) hd_lodgerref06_Leaves) L) 35 [i64] (res1 i64) [encV E i64 a0]).opt = lodgerref06_Leaves_eb  (fun s0 s3 => (L (todoOf (Cb_lodgerref06_Leaves ) 35 0) (h0_lodgerref06_Leaves s0 s3)).opt) a0 := by kernel_rfl
theorem en_lodgerref06_Leaves (L : Lp S (Int)) (a0 : Int) : (runW C_lodgerref06_Leaves (clD C_lodgerref06_Leaves 0) (fun _ => canonL (hdOf C_lodgerref06_Leaves hd_lodgerref06_Leaves) L) 35 [i64] (res1 i64) [encV E i64 a0]).opt = lodgerref06_Leaves_e (fun s0 s3 => (L (todoOf C_lodgerref06_Leaves 35 0) (h0_lodgerref06_Leaves s0 s3)).opt) a0 := (congrArg D.opt (runWF_eq _ _ _ _ _ _ _)).trans (enb_lodgerref06_Leaves  L a0)
theorem fx_lodgerref06_Leaves : ∀ n, (∀ (s0 : Int) (s3 : Int), (Lfix C_lodgerref06_Leaves (clD C_lodgerref06_Leaves 0) (hdOf C_lodgerref06_Leaves hd_lodgerref06_Leaves) (finW C_lodgerref06_Leaves 35 [i64] (res1 i64)) n (todoOf C_lodgerref06_Leaves 35 0) (h0_lodgerref06_Leaves s0 s3)).opt = lodgerref06_Leaves_l0 n s0 s3)
  | 0 => fun _ _ => rfl
  | n + 1 => by
    have ih := fx_lodgerref06_Leaves n
    have e0 : (fun s0 s3 => (Lfix C_lodgerref06_Leaves (clD C_lodgerref06_Leaves 0) (hdOf C_lodgerref06_Leaves hd_lodgerref06_Leaves) (finW C_lodgerref06_Leaves 35 [i64] (res1 i64)) n (todoOf C_lodgerref06_Leaves 35 0) (h0_lodgerref06_Leaves s0 s3)).opt) = lodgerref06_Leaves_l0 n := funext fun s0 => funext fun s3 => ih s0 s3
    exact fun s0 s3 => (congrArg D.opt (Lfix_round C_lodgerref06_Leaves (clD C_lodgerref06_Leaves 0) (hdOf C_lodgerref06_Leaves hd_lodgerref06_Leaves) 35 0 [i64] (res1 i64) n _)).trans ((rd0_lodgerref06_Leaves (Lfix C_lodgerref06_Leaves (clD C_lodgerref06_Leaves 0) (hdOf C_lodgerref06_Leaves hd_lodgerref06_Leaves) (finW C_lodgerref06_Leaves 35 [i64] (res1 i64)) n) s0 s3).trans (congrArg (fun x => lodgerref06_Leaves_s0  x  s0 s3) e0))
theorem ev_lodgerref06_Leaves (n : Nat) (a0 : Int) : (runF C_lodgerref06_Leaves (clD C_lodgerref06_Leaves 0) (hdOf C_lodgerref06_Leaves hd_lodgerref06_Leaves) 35 [i64] (res1 i64) n [encV E i64 a0]).opt = lodgerref06_Leaves_n n a0 := by
  have ih := fx_lodgerref06_Leaves n
  have e0 : (fun s0 s3 => (Lfix C_lodgerref06_Leaves (clD C_lodgerref06_Leaves 0) (hdOf C_lodgerref06_Leaves hd_lodgerref06_Leaves) (finW C_lodgerref06_Leaves 35 [i64] (res1 i64)) n (todoOf C_lodgerref06_Leaves 35 0) (h0_lodgerref06_Leaves s0 s3)).opt) = lodgerref06_Leaves_l0 n := funext fun s0 => funext fun s3 => ih s0 s3
  exact (congrArg D.opt (runF_eq C_lodgerref06_Leaves (clD C_lodgerref06_Leaves 0) (hdOf C_lodgerref06_Leaves hd_lodgerref06_Leaves) 35 [i64] (res1 i64) n _)).trans ((en_lodgerref06_Leaves (Lfix C_lodgerref06_Leaves (clD C_lodgerref06_Leaves 0) (hdOf C_lodgerref06_Leaves hd_lodgerref06_Leaves) (finW C_lodgerref06_Leaves 35 [i64] (res1 i64)) n) a0).trans (congrArg (fun x => lodgerref06_Leaves_e  x  a0) e0))
theorem ok_lodgerref06_Leaves : SpecOK C_lodgerref06_Leaves 35 sp_lodgerref06_Leaves := by
  have hS := specs_ok (C := C_lodgerref06_Leaves) (l := us_lodgerref06_Leaves) rfl trivial
  refine spec_ok (C := C_lodgerref06_Leaves) (cl := (clD C_lodgerref06_Leaves 0)) (hd := (hdOf C_lodgerref06_Leaves hd_lodgerref06_Leaves)) envOK (tyOK_of (l := tab) rfl tabT) hS (clD_ok envOK (tyOK_of (l := tab) rfl tabT) hS mixed (inl_ok (l := []) rfl (by kernel_rfl)) _) mixed (hdOf_ok envOK hd_lodgerref06_Leaves) (by kernel_rfl) [i64] (res1 i64) (de1 (S := S) i64) fun cs r h => ?_
  obtain ⟨a0, rfl, h⟩ := inv1 h
  exact ⟨big, (ev_lodgerref06_Leaves big a0).trans ((def_lodgerref06_Leaves a0).symm.trans h)⟩
-- lodger/lodgerref06.Tops
def lodgerref06_Tops_s0b (g_lodgerref06_Leaves : Int → Option (Int)) (k0 : Int → Int → Option (Int)) (s0 : Int) (s3 : Int) : Option (Int) := ((g_lodgerref06_Leaves s0).bind fun r1 => (bif (decide ((IntKind.wrap .i64 (64 * s3)) < r1)) then k0 s0 (IntKind.wrap .i64 (s3 + 1)) else some s3))
def lodgerref06_Tops_eb (g_lodgerref06_Leaves : Int → Option (Int)) (k0 : Int → Int → Option (Int)) (a0 : Int) : Option (Int) := k0 a0 0
def sp_lodgerref06_Tops : Spec S := { args := [i64], R := Int, run := run1 i64 lodgerref06_Tops, enc := enc1 (S := S) i64 }
def spb_lodgerref06_Tops (F : Int → Option (Int)) : Spec S := { args := [i64], R := Int, run := run1 i64 F, enc := enc1 (S := S) i64 }
def usb_lodgerref06_Tops (g_lodgerref06_Leaves : Int → Option (Int)) : List (Nat × Spec S) := [(35, spb_lodgerref06_Leaves g_lodgerref06_Leaves)]
def us_lodgerref06_Tops : List (Nat × Spec S) := [(35, sp_lodgerref06_Leaves)]
noncomputable def Cb_lodgerref06_Tops (g_lodgerref06_Leaves : Int → Option (Int)) : Ctx S := { P := Try.prog, E := E, ty := tyL tab, G := glL gtab, spec := spL (usb_lodgerref06_Tops g_lodgerref06_Leaves), inl := inL [] }
noncomputable def C_lodgerref06_Tops : Ctx S := Cb_lodgerref06_Tops lodgerref06_Leaves
def hd_lodgerref06_Tops : List ((Nat × Nat) × List Hs) := [((2, 2), [.canon 0 [] [0, 3], .plain 0 i64, .plain 3 i64])]
def h0_lodgerref06_Tops (s0 : Int) (s3 : Int) : St S := { tmps := [.cell i64 s0, .undef, .undef, .cell i64 s3, .undef, .undef, .undef, .undef, .undef, .undef, .undef, .undef], mem := [] }
theorem rdb0_lodgerref06_Tops (g_lodgerref06_Leaves : Int → Option (Int)) (L : Lp S (Int)) (s0 : Int) (s3 : Int) : (roundWF (Cb_lodgerref06_Tops g_lodgerref06_Leaves) (clDF (Cb_lodgerref06_Tops g_lodgerref06_Leaves) 0) (hdOf (Cb_lodgerref06_Tops g_lodgerref06_Leaves) hd_lodgerref06_Tops) 36 0 [i64] (res1 i64) L (h0_lodgerref06_Tops s0 s3)).opt = lodgerref06_Tops_s0b g_lodgerref06_Leaves (fun s0 s3 => (L (todoOf (Cb_lodgerref06_Tops g_lodgerref06_Leaves) 36 0) (h0_lodgerref06_Tops s0 s3)).opt) s0 s3 := by kernel_rfl
theorem rd0_lodgerref06_Tops (L : Lp S (Int)) (s0 : Int) (s3 : Int) : (roundW C_lodgerref06_Tops (clD C_lodgerref06_Tops 0) (hdOf C_lodgerref06_Tops hd_lodgerref06_Tops) 36 0 [i64] (res1 i64) L (h0_lodgerref06_Tops s0 s3)).opt = lodgerref06_Tops_s0 (fun s0 s3 => (L (todoOf C_lodgerref06_Tops 36 0) (h0_lodgerref06_Tops s0 s3)).opt) s0 s3 := (congrArg D.opt (roundWF_eq _ _ _ _ _ _ _ L _)).trans (rdb0_lodgerref06_Tops lodgerref06_Leaves L s0 s3)
theorem enb_lodgerref06_Tops (g_lodgerref06_Leaves : Int → Option (Int)) (L : Lp S (Int)) (a0 : Int) : (runWF (Cb_lodgerref06_Tops g_lodgerref06_Leaves) (clDF (Cb_lodgerref06_Tops g_lodgerref06_Leaves) 0) (fun _ => canonL (hdOf (Cb_lodgerref06_Tops g_lodgerref06_Leaves) hd_lodgerref06_Tops) L) 36 [i64] (res1 i64) [encV E i64 a0]).opt = lodgerref06_Tops_eb g_lodgerref06_Leaves (fun s0 s3 => (L (todoOf (Cb_lodgerref06_Tops g_lodgerref06_Leaves) 36 0) (h0_lodgerref06_Tops s0 s3)).opt) a0 := by kernel_rfl
theorem en_lodgerref06_Tops (L : Lp S (Int)) (a0 : Int) : (runW C_lodgerref06_Tops (clD C_lodgerref06_Tops 0) (fun _ => canonL (hdOf C_lodgerref06_Tops hd_lodgerref06_Tops) L) 36 [i64] (res1 i64) [encV E i64 a0]).opt = lodgerref06_Tops_e (fun s0 s3 => (L (todoOf C_lodgerref06_Tops 36 0) (h0_lodgerref06_Tops s0 s3)).opt) a0 := (congrArg D.opt (runWF_eq _ _ _ _ _ _ _)).trans (enb_lodgerref06_Tops lodgerref06_Leaves L a0)
theorem fx_lodgerref06_Tops : ∀ n, (∀ (s0 : Int) (s3 : Int), (Lfix C_lodgerref06_Tops (clD C_lodgerref06_Tops 0) (hdOf C_lodgerref06_Tops hd_lodgerref06_Tops) (finW C_lodgerref06_Tops 36 [i64] (res1 i64)) n (todoOf C_lodgerref06_Tops 36 0) (h0_lodgerref06_Tops s0 s3)).opt = lodgerref06_Tops_l0 n s0 s3)
  | 0 => fun _ _ => rfl
  | n + 1 => by
    have ih := fx_lodgerref06_Tops n
    have e0 : (fun s0 s3 => (Lfix C_lodgerref06_Tops (clD C_lodgerref06_Tops 0) (hdOf C_lodgerref06_Tops hd_lodgerref06_Tops) (finW C_lodgerref06_Tops 36 [i64] (res1 i64)) n (todoOf C_lodgerref06_Tops 36 0) (h0_lodgerref06_Tops s0 s3)).opt) = lodgerref06_Tops_l0 n := funext fun s0 => funext fun s3 => ih s0 s3
    exact fun s0 s3 => (congrArg D.opt (Lfix_round C_lodgerref06_Tops (clD C_lodgerref06_Tops 0) (hdOf C_lodgerref06_Tops hd_lodgerref06_Tops) 36 0 [i64] (res1 i64) n _)).trans ((rd0_lodgerref06_Tops (Lfix C_lodgerref06_Tops (clD C_lodgerref06_Tops 0) (hdOf C_lodgerref06_Tops hd_lodgerref06_Tops) (finW C_lodgerref06_Tops 36 [i64] (res1 i64)) n) s0 s3).trans (congrArg (fun x => lodgerref06_Tops_s0  x  s0 s3) e0))
theorem ev_lodgerref06_Tops (n : Nat) (a0 : Int) : (runF C_lodgerref06_Tops (clD C_lodgerref06_Tops 0) (hdOf C_lodgerref06_Tops hd_lodgerref06_Tops) 36 [i64] (res1 i64) n [encV E i64 a0]).opt = lodgerref06_Tops_n n a0 := by
  have ih := fx_lodgerref06_Tops n
  have e0 : (fun s0 s3 => (Lfix C_lodgerref06_Tops (clD C_lodgerref06_Tops 0) (hdOf C_lodgerref06_Tops hd_lodgerref06_Tops) (finW C_lodgerref06_Tops 36 [i64] (res1 i64)) n (todoOf C_lodgerref06_Tops 36 0) (h0_lodgerref06_Tops s0 s3)).opt) = lodgerref06_Tops_l0 n := funext fun s0 => funext fun s3 => ih s0 s3
  exact (congrArg D.opt (runF_eq C_lodgerref06_Tops (clD C_lodgerref06_Tops 0) (hdOf C_lodgerref06_Tops hd_lodgerref06_Tops) 36 [i64] (res1 i64) n _)).trans ((en_lodgerref06_Tops (Lfix C_lodgerref06_Tops (clD C_lodgerref06_Tops 0) (hdOf C_lodgerref06_Tops hd_lodgerref06_Tops) (finW C_lodgerref06_Tops 36 [i64] (res1 i64)) n) a0).trans (congrArg (fun x => lodgerref06_Tops_e  x  a0) e0))
theorem ok_lodgerref06_Tops : SpecOK C_lodgerref06_Tops 36 sp_lodgerref06_Tops := by
  have hS := specs_ok (C := C_lodgerref06_Tops) (l := us_lodgerref06_Tops) rfl ⟨ok_lodgerref06_Leaves.re rfl rfl rfl, trivial⟩
  refine spec_ok (C := C_lodgerref06_Tops) (cl := (clD C_lodgerref06_Tops 0)) (hd := (hdOf C_lodgerref06_Tops hd_lodgerref06_Tops)) envOK (tyOK_of (l := tab) rfl tabT) hS (clD_ok envOK (tyOK_of (l := tab) rfl tabT) hS mixed (inl_ok (l := []) rfl (by kernel_rfl)) _) mixed (hdOf_ok envOK hd_lodgerref06_Tops) (by kernel_rfl) [i64] (res1 i64) (de1 (S := S) i64) fun cs r h => ?_
  obtain ⟨a0, rfl, h⟩ := inv1 h
  exact ⟨big, (ev_lodgerref06_Tops big a0).trans ((def_lodgerref06_Tops a0).symm.trans h)⟩
-- lodger/lodgerref06.Cells
def lodgerref06_Cells_b (g_lodgerref06_Leaves : Int → Option (Int)) (g_lodgerref06_Tops : Int → Option (Int)) (a0 : Int) : Option (Int) := ((g_lodgerref06_Leaves a0).bind fun r1 => ((g_lodgerref06_Tops a0).bind fun r2 => some (IntKind.wrap .i64 ((IntKind.wrap .i64 (r1 + r2)) + 1))))
def sp_lodgerref06_Cells : Spec S := { args := [i64], R := Int, run := run1 i64 lodgerref06_Cells, enc := enc1 (S := S) i64 }
def spb_lodgerref06_Cells (F : Int → Option (Int)) : Spec S := { args := [i64], R := Int, run := run1 i64 F, enc := enc1 (S := S) i64 }
def usb_lodgerref06_Cells (g_lodgerref06_Leaves : Int → Option (Int)) (g_lodgerref06_Tops : Int → Option (Int)) : List (Nat × Spec S) := [(35, spb_lodgerref06_Leaves g_lodgerref06_Leaves), (36, spb_lodgerref06_Tops g_lodgerref06_Tops)]
def us_lodgerref06_Cells : List (Nat × Spec S) := [(35, sp_lodgerref06_Leaves), (36, sp_lodgerref06_Tops)]
noncomputable def Cb_lodgerref06_Cells (g_lodgerref06_Leaves : Int → Option (Int)) (g_lodgerref06_Tops : Int → Option (Int)) : Ctx S := { P := Try.prog, E := E, ty := tyL tab, G := glL gtab, spec := spL (usb_lodgerref06_Cells g_lodgerref06_Leaves g_lodgerref06_Tops), inl := inL [] }
noncomputable def C_lodgerref06_Cells : Ctx S := Cb_lodgerref06_Cells lodgerref06_Leaves lodgerref06_Tops
theorem evb_lodgerref06_Cells (g_lodgerref06_Leaves : Int → Option (Int)) (g_lodgerref06_Tops : Int → Option (Int)) (L : (St S → D (Int)) → Lp S (Int)) (a0 : Int) : (runWF (Cb_lodgerref06_Cells g_lodgerref06_Leaves g_lodgerref06_Tops) (clDF (Cb_lodgerref06_Cells g_lodgerref06_Leaves g_lodgerref06_Tops) 0) L 20 [i64] (res1 i64) [encV E i64 a0]).opt = lodgerref06_Cells_b g_lodgerref06_Leaves g_lodgerref06_Tops a0 := by kernel_rfl
theorem ev_lodgerref06_Cells (L : (St S → D (Int)) → Lp S (Int)) (a0 : Int) : (runW C_lodgerref06_Cells (clD C_lodgerref06_Cells 0) L 20 [i64] (res1 i64) [encV E i64 a0]).opt = lodgerref06_Cells a0 := (congrArg D.opt (runWF_eq _ _ L _ _ _ _)).trans (evb_lodgerref06_Cells lodgerref06_Leaves lodgerref06_Tops L a0)
theorem ok_lodgerref06_Cells : SpecOK C_lodgerref06_Cells 20 sp_lodgerref06_Cells := by
  have hS := specs_ok (C := C_lodgerref06_Cells) (l := us_lodgerref06_Cells) rfl ⟨ok_lodgerref06_Leaves.re rfl rfl rfl, ok_lodgerref06_Tops.re rfl rfl rfl, trivial⟩
  refine spec_ok (C := C_lodgerref06_Cells) (cl := (clD C_lodgerref06_Cells 0)) (hd := (fun _ s => some s)) envOK (tyOK_of (l := tab) rfl tabT) hS (clD_ok envOK (tyOK_of (l := tab) rfl tabT) hS mixed (inl_ok (l := []) rfl (by kernel_rfl)) _) mixed HdOK.id (by kernel_rfl) [i64] (res1 i64) (de1 (S := S) i64) fun cs r h => ?_
  obtain ⟨a0, rfl, h⟩ := inv1 h
  exact ⟨0, (ev_lodgerref06_Cells _ a0).trans h⟩
-- lodger/lodgerref08.Fits
def lodgerref08_Fits_b (g_lodgerref05_Many : Block → Option (Int)) (g_lodgerref05_May : Conf → Option (Bool)) (g_lodgerref06_Cells : Int → Option (Int)) (a0 : Conf) (a1 : (List Int)) : Option (Bool) := ((g_lodgerref05_May a0).bind fun r1 => (bif r1 then ((g_lodgerref05_Many a0.block).bind fun r2 => (bif (decide (r2 ≤ 4096)) then ((g_lodgerref05_Many a0.block).bind fun r3 => ((g_lodgerref06_Cells r3).bind fun r4 => some ((List.length a1 : Int) == r4))) else some false)) else some false))
def sp_lodgerref08_Fits : Spec S := { args := [(Ty.st 1), (Ty.slice u64)], R := Bool, run := run2 (Ty.st 1) (Ty.slice u64) lodgerref08_Fits, enc := enc1 (S := S) Ty.bool }
def spb_lodgerref08_Fits (F : Conf → (List Int) → Option (Bool)) : Spec S := { args := [(Ty.st 1), (Ty.slice u64)], R := Bool, run := run2 (Ty.st 1) (Ty.slice u64) F, enc := enc1 (S := S) Ty.bool }
def usb_lodgerref08_Fits (g_lodgerref05_Many : Block → Option (Int)) (g_lodgerref05_May : Conf → Option (Bool)) (g_lodgerref06_Cells : Int → Option (Int)) : List (Nat × Spec S) := [(8, spb_lodgerref05_Many g_lodgerref05_Many), (19, spb_lodgerref05_May g_lodgerref05_May), (20, spb_lodgerref06_Cells g_lodgerref06_Cells)]
def us_lodgerref08_Fits : List (Nat × Spec S) := [(8, sp_lodgerref05_Many), (19, sp_lodgerref05_May), (20, sp_lodgerref06_Cells)]
noncomputable def Cb_lodgerref08_Fits (g_lodgerref05_Many : Block → Option (Int)) (g_lodgerref05_May : Conf → Option (Bool)) (g_lodgerref06_Cells : Int → Option (Int)) : Ctx S := { P := Try.prog, E := E, ty := tyL tab, G := glL gtab, spec := spL (usb_lodgerref08_Fits g_lodgerref05_Many g_lodgerref05_May g_lodgerref06_Cells), inl := inL [] }
noncomputable def C_lodgerref08_Fits : Ctx S := Cb_lodgerref08_Fits lodgerref05_Many lodgerref05_May lodgerref06_Cells
theorem evb_lodgerref08_Fits (g_lodgerref05_Many : Block → Option (Int)) (g_lodgerref05_May : Conf → Option (Bool)) (g_lodgerref06_Cells : Int → Option (Int)) (L : (St S → D (Bool)) → Lp S (Bool)) (a0 : Conf) (a1 : (List Int)) : (runWF (Cb_lodgerref08_Fits g_lodgerref05_Many g_lodgerref05_May g_lodgerref06_Cells) (clDF (Cb_lodgerref08_Fits g_lodgerref05_Many g_lodgerref05_May g_lodgerref06_Cells) 0) L 7 [Ty.bool] (res1 Ty.bool) [encV E (Ty.st 1) a0, encV E (Ty.slice u64) a1]).opt = lodgerref08_Fits_b g_lodgerref05_Many g_lodgerref05_May g_lodgerref06_Cells a0 a1 := by kernel_rfl
theorem ev_lodgerref08_Fits (L : (St S → D (Bool)) → Lp S (Bool)) (a0 : Conf) (a1 : (List Int)) : (runW C_lodgerref08_Fits (clD C_lodgerref08_Fits 0) L 7 [Ty.bool] (res1 Ty.bool) [encV E (Ty.st 1) a0, encV E (Ty.slice u64) a1]).opt = lodgerref08_Fits a0 a1 := (congrArg D.opt (runWF_eq _ _ L _ _ _ _)).trans (evb_lodgerref08_Fits lodgerref05_Many lodgerref05_May lodgerref06_Cells L a0 a1)
theorem ok_lodgerref08_Fits : SpecOK C_lodgerref08_Fits 7 sp_lodgerref08_Fits := by
  have hS := specs_ok (C := C_lodgerref08_Fits) (l := us_lodgerref08_Fits) rfl ⟨ok_lodgerref05_Many.re rfl rfl rfl, ok_lodgerref05_May.re rfl rfl rfl, ok_lodgerref06_Cells.re rfl rfl rfl, trivial⟩
  refine spec_ok (C := C_lodgerref08_Fits) (cl := (clD C_lodgerref08_Fits 0)) (hd := (fun _ s => some s)) envOK (tyOK_of (l := tab) rfl tabT) hS (clD_ok envOK (tyOK_of (l := tab) rfl tabT) hS mixed (inl_ok (l := []) rfl (by kernel_rfl)) _) mixed HdOK.id (by kernel_rfl) [Ty.bool] (res1 Ty.bool) (de1 (S := S) Ty.bool) fun cs r h => ?_
  obtain ⟨a0, a1, rfl, h⟩ := inv2 h
  exact ⟨0, (ev_lodgerref08_Fits _ a0 a1).trans h⟩
-- lodger/lodgerref05.Offset
def lodgerref05_Offset_b (g_lodgerref05_Many : Block → Option (Int)) (a0 : Block) (a1 : Int) : Option (Int × Int) := (bif (decide (a1 < a0.base)) then some (0, 3) else ((g_lodgerref05_Many a0).bind fun r1 => (bif (decide ((IntKind.wrap .i64 (IntKind.wrap .u32 (a1 - a0.base))) ≥ r1)) then some (0, 3) else some ((IntKind.wrap .i64 (IntKind.wrap .u32 (a1 - a0.base))), 0))))
def sp_lodgerref05_Offset : Spec S := { args := [(Ty.st 0), u32], R := Int × Int, run := run2 (Ty.st 0) u32 lodgerref05_Offset, enc := enc2 (S := S) i64 i64 }
def spb_lodgerref05_Offset (F : Block → Int → Option (Int × Int)) : Spec S := { args := [(Ty.st 0), u32], R := Int × Int, run := run2 (Ty.st 0) u32 F, enc := enc2 (S := S) i64 i64 }
def usb_lodgerref05_Offset (g_lodgerref05_Many : Block → Option (Int)) : List (Nat × Spec S) := [(8, spb_lodgerref05_Many g_lodgerref05_Many)]
def us_lodgerref05_Offset : List (Nat × Spec S) := [(8, sp_lodgerref05_Many)]
noncomputable def Cb_lodgerref05_Offset (g_lodgerref05_Many : Block → Option (Int)) : Ctx S := { P := Try.prog, E := E, ty := tyL tab, G := glL gtab, spec := spL (usb_lodgerref05_Offset g_lodgerref05_Many), inl := inL [] }
noncomputable def C_lodgerref05_Offset : Ctx S := Cb_lodgerref05_Offset lodgerref05_Many
theorem evb_lodgerref05_Offset (g_lodgerref05_Many : Block → Option (Int)) (L : (St S → D (Int × Int)) → Lp S (Int × Int)) (a0 : Block) (a1 : Int) : (runWF (Cb_lodgerref05_Offset g_lodgerref05_Many) (clDF (Cb_lodgerref05_Offset g_lodgerref05_Many) 0) L 28 [i64, i64] (res2 i64 i64) [encV E (Ty.st 0) a0, encV E u32 a1]).opt = lodgerref05_Offset_b g_lodgerref05_Many a0 a1 := by kernel_rfl
theorem ev_lodgerref05_Offset (L : (St S → D (Int × Int)) → Lp S (Int × Int)) (a0 : Block) (a1 : Int) : (runW C_lodgerref05_Offset (clD C_lodgerref05_Offset 0) L 28 [i64, i64] (res2 i64 i64) [encV E (Ty.st 0) a0, encV E u32 a1]).opt = lodgerref05_Offset a0 a1 := (congrArg D.opt (runWF_eq _ _ L _ _ _ _)).trans (evb_lodgerref05_Offset lodgerref05_Many L a0 a1)
theorem ok_lodgerref05_Offset : SpecOK C_lodgerref05_Offset 28 sp_lodgerref05_Offset := by
  have hS := specs_ok (C := C_lodgerref05_Offset) (l := us_lodgerref05_Offset) rfl ⟨ok_lodgerref05_Many.re rfl rfl rfl, trivial⟩
  refine spec_ok (C := C_lodgerref05_Offset) (cl := (clD C_lodgerref05_Offset 0)) (hd := (fun _ s => some s)) envOK (tyOK_of (l := tab) rfl tabT) hS (clD_ok envOK (tyOK_of (l := tab) rfl tabT) hS mixed (inl_ok (l := []) rfl (by kernel_rfl)) _) mixed HdOK.id (by kernel_rfl) [i64, i64] (res2 i64 i64) (de2 (S := S) i64 i64) fun cs r h => ?_
  obtain ⟨a0, a1, rfl, h⟩ := inv2 h
  exact ⟨0, (ev_lodgerref05_Offset _ a0 a1).trans h⟩
-- lodger/lodgerref08.Goes
def lodgerref08_Goes_b (g_lodgerref05_Offset : Block → Int → Option (Int × Int)) (a0 : Conf) (a1 : Oq) : Option (Oq) := (bif (a1.ask.kind == 4) then (bif (decide ((IntKind.wrap .i64 (a1.item + 1)) < (List.length a1.ask.addrs : Int))) then ((geti a1.ask.addrs (IntKind.wrap .i64 (a1.item + 1))).bind fun x1 => ((g_lodgerref05_Offset a0.block x1).bind fun r2 => some ({ a1 with phase := 8, leaf := (IntKind.wrap .i64 (Int.tdiv r2.1 32)), bit := (Int.tmod r2.1 32), word := 0, full := false, at_ := 0, item := (IntKind.wrap .i64 (a1.item + 1)) } : Oq))) else some ({ a1 with phase := 0, word := 0, full := false, at_ := 0 } : Oq)) else some ({ a1 with phase := 0, word := 0, full := false, at_ := 0 } : Oq))
def sp_lodgerref08_Goes : Spec S := { args := [(Ty.st 1), (Ty.st 4)], R := Oq, run := run2 (Ty.st 1) (Ty.st 4) lodgerref08_Goes, enc := enc1 (S := S) (Ty.st 4) }
def spb_lodgerref08_Goes (F : Conf → Oq → Option (Oq)) : Spec S := { args := [(Ty.st 1), (Ty.st 4)], R := Oq, run := run2 (Ty.st 1) (Ty.st 4) F, enc := enc1 (S := S) (Ty.st 4) }
def usb_lodgerref08_Goes (g_lodgerref05_Offset : Block → Int → Option (Int × Int)) : List (Nat × Spec S) := [(28, spb_lodgerref05_Offset g_lodgerref05_Offset)]
def us_lodgerref08_Goes : List (Nat × Spec S) := [(28, sp_lodgerref05_Offset)]
noncomputable def Cb_lodgerref08_Goes (g_lodgerref05_Offset : Block → Int → Option (Int × Int)) : Ctx S := { P := Try.prog, E := E, ty := tyL tab, G := glL gtab, spec := spL (usb_lodgerref08_Goes g_lodgerref05_Offset), inl := inL [] }
noncomputable def C_lodgerref08_Goes : Ctx S := Cb_lodgerref08_Goes lodgerref05_Offset
theorem evb_lodgerref08_Goes (g_lodgerref05_Offset : Block → Int → Option (Int × Int)) (L : (St S → D (Oq)) → Lp S (Oq)) (a0 : Conf) (a1 : Oq) : (runWF (Cb_lodgerref08_Goes g_lodgerref05_Offset) (clDF (Cb_lodgerref08_Goes g_lodgerref05_Offset) 0) L 10 [(Ty.st 4)] (res1 (Ty.st 4)) [encV E (Ty.st 1) a0, encV E (Ty.st 4) a1]).opt = lodgerref08_Goes_b g_lodgerref05_Offset a0 a1 := by kernel_rfl
theorem ev_lodgerref08_Goes (L : (St S → D (Oq)) → Lp S (Oq)) (a0 : Conf) (a1 : Oq) : (runW C_lodgerref08_Goes (clD C_lodgerref08_Goes 0) L 10 [(Ty.st 4)] (res1 (Ty.st 4)) [encV E (Ty.st 1) a0, encV E (Ty.st 4) a1]).opt = lodgerref08_Goes a0 a1 := (congrArg D.opt (runWF_eq _ _ L _ _ _ _)).trans (evb_lodgerref08_Goes lodgerref05_Offset L a0 a1)
theorem ok_lodgerref08_Goes : SpecOK C_lodgerref08_Goes 10 sp_lodgerref08_Goes := by
  have hS := specs_ok (C := C_lodgerref08_Goes) (l := us_lodgerref08_Goes) rfl ⟨ok_lodgerref05_Offset.re rfl rfl rfl, trivial⟩
  refine spec_ok (C := C_lodgerref08_Goes) (cl := (clD C_lodgerref08_Goes 0)) (hd := (fun _ s => some s)) envOK (tyOK_of (l := tab) rfl tabT) hS (clD_ok envOK (tyOK_of (l := tab) rfl tabT) hS mixed (inl_ok (l := []) rfl (by kernel_rfl)) _) mixed HdOK.id (by kernel_rfl) [(Ty.st 4)] (res1 (Ty.st 4)) (de1 (S := S) (Ty.st 4)) fun cs r h => ?_
  obtain ⟨a0, a1, rfl, h⟩ := inv2 h
  exact ⟨0, (ev_lodgerref08_Goes _ a0 a1).trans h⟩
-- lodger/lodgerref01.Pow
def lodgerref01_Pow_s0b  (k0 : Int → Int → Int → Option (Int)) (s0 : Int) (s3 : Int) (s4 : Int) : Option (Int) := (bif (decide (s4 < s0)) then k0 s0 (IntKind.wrap .u64 (s3 * 2)) (IntKind.wrap .i64 (s4 + 1)) else some s3)
def lodgerref01_Pow_eb  (k0 : Int → Int → Int → Option (Int)) (a0 : Int) : Option (Int) := k0 a0 1 0
def sp_lodgerref01_Pow : Spec S := { args := [i64], R := Int, run := run1 i64 lodgerref01_Pow, enc := enc1 (S := S) u64 }
def spb_lodgerref01_Pow (F : Int → Option (Int)) : Spec S := { args := [i64], R := Int, run := run1 i64 F, enc := enc1 (S := S) u64 }
def usb_lodgerref01_Pow  : List (Nat × Spec S) := []
def us_lodgerref01_Pow : List (Nat × Spec S) := []
noncomputable def Cb_lodgerref01_Pow  : Ctx S := { P := Try.prog, E := E, ty := tyL tab, G := glL gtab, spec := spL (usb_lodgerref01_Pow ), inl := inL [] }
noncomputable def C_lodgerref01_Pow : Ctx S := Cb_lodgerref01_Pow 
def hd_lodgerref01_Pow : List ((Nat × Nat) × List Hs) := [((2, 3), [.canon 0 [] [0, 3, 4], .plain 0 i64, .plain 3 u64, .plain 4 i64])]
def h0_lodgerref01_Pow (s0 : Int) (s3 : Int) (s4 : Int) : St S := { tmps := [.cell i64 s0, .undef, .undef, .cell u64 s3, .cell i64 s4, .undef, .undef, .undef, .undef, .undef, .undef, .undef, .undef], mem := [] }
theorem rdb0_lodgerref01_Pow  (L : Lp S (Int)) (s0 : Int) (s3 : Int) (s4 : Int) : (roundWF (Cb_lodgerref01_Pow ) (clDF (Cb_lodgerref01_Pow ) 0) (hdOf (Cb_lodgerref01_Pow ) hd_lodgerref01_Pow) 29 0 [u64] (res1 u64) L (h0_lodgerref01_Pow s0 s3 s4)).opt = lodgerref01_Pow_s0b  (fun s0 s3 s4 => (L (todoOf (Cb_lodgerref01_Pow ) 29 0) (h0_lodgerref01_Pow s0 s3 s4)).opt) s0 s3 s4 := by kernel_rfl
theorem rd0_lodgerref01_Pow (L : Lp S (Int)) (s0 : Int) (s3 : Int) (s4 : Int) : (roundW C_lodgerref01_Pow (clD C_lodgerref01_Pow 0) (hdOf C_lodgerref01_Pow hd_lodgerref01_Pow) 29 0 [u64] (res1 u64) L (h0_lodgerref01_Pow s0 s3 s4)).opt = lodgerref01_Pow_s0 (fun s0 s3 s4 => (L (todoOf C_lodgerref01_Pow 29 0) (h0_lodgerref01_Pow s0 s3 s4)).opt) s0 s3 s4 := (congrArg D.opt (roundWF_eq _ _ _ _ _ _ _ L _)).trans (rdb0_lodgerref01_Pow  L s0 s3 s4)
theorem enb_lodgerref01_Pow  (L : Lp S (Int)) (a0 : Int) : (runWF (Cb_lodgerref01_Pow ) (clDF (Cb_lodgerref01_Pow ) 0) (fun _ => canonL (hdOf (Cb_lodgerref01_Pow ) hd_lodgerref01_Pow) L) 29 [u64] (res1 u64) [encV E i64 a0]).opt = lodgerref01_Pow_eb  (fun s0 s3 s4 => (L (todoOf (Cb_lodgerref01_Pow ) 29 0) (h0_lodgerref01_Pow s0 s3 s4)).opt) a0 := by kernel_rfl
theorem en_lodgerref01_Pow (L : Lp S (Int)) (a0 : Int) : (runW C_lodgerref01_Pow (clD C_lodgerref01_Pow 0) (fun _ => canonL (hdOf C_lodgerref01_Pow hd_lodgerref01_Pow) L) 29 [u64] (res1 u64) [encV E i64 a0]).opt = lodgerref01_Pow_e (fun s0 s3 s4 => (L (todoOf C_lodgerref01_Pow 29 0) (h0_lodgerref01_Pow s0 s3 s4)).opt) a0 := (congrArg D.opt (runWF_eq _ _ _ _ _ _ _)).trans (enb_lodgerref01_Pow  L a0)
theorem fx_lodgerref01_Pow : ∀ n, (∀ (s0 : Int) (s3 : Int) (s4 : Int), (Lfix C_lodgerref01_Pow (clD C_lodgerref01_Pow 0) (hdOf C_lodgerref01_Pow hd_lodgerref01_Pow) (finW C_lodgerref01_Pow 29 [u64] (res1 u64)) n (todoOf C_lodgerref01_Pow 29 0) (h0_lodgerref01_Pow s0 s3 s4)).opt = lodgerref01_Pow_l0 n s0 s3 s4)
  | 0 => fun _ _ _ => rfl
  | n + 1 => by
    have ih := fx_lodgerref01_Pow n
    have e0 : (fun s0 s3 s4 => (Lfix C_lodgerref01_Pow (clD C_lodgerref01_Pow 0) (hdOf C_lodgerref01_Pow hd_lodgerref01_Pow) (finW C_lodgerref01_Pow 29 [u64] (res1 u64)) n (todoOf C_lodgerref01_Pow 29 0) (h0_lodgerref01_Pow s0 s3 s4)).opt) = lodgerref01_Pow_l0 n := funext fun s0 => funext fun s3 => funext fun s4 => ih s0 s3 s4
    exact fun s0 s3 s4 => (congrArg D.opt (Lfix_round C_lodgerref01_Pow (clD C_lodgerref01_Pow 0) (hdOf C_lodgerref01_Pow hd_lodgerref01_Pow) 29 0 [u64] (res1 u64) n _)).trans ((rd0_lodgerref01_Pow (Lfix C_lodgerref01_Pow (clD C_lodgerref01_Pow 0) (hdOf C_lodgerref01_Pow hd_lodgerref01_Pow) (finW C_lodgerref01_Pow 29 [u64] (res1 u64)) n) s0 s3 s4).trans (congrArg (fun x => lodgerref01_Pow_s0  x  s0 s3 s4) e0))
theorem ev_lodgerref01_Pow (n : Nat) (a0 : Int) : (runF C_lodgerref01_Pow (clD C_lodgerref01_Pow 0) (hdOf C_lodgerref01_Pow hd_lodgerref01_Pow) 29 [u64] (res1 u64) n [encV E i64 a0]).opt = lodgerref01_Pow_n n a0 := by
  have ih := fx_lodgerref01_Pow n
  have e0 : (fun s0 s3 s4 => (Lfix C_lodgerref01_Pow (clD C_lodgerref01_Pow 0) (hdOf C_lodgerref01_Pow hd_lodgerref01_Pow) (finW C_lodgerref01_Pow 29 [u64] (res1 u64)) n (todoOf C_lodgerref01_Pow 29 0) (h0_lodgerref01_Pow s0 s3 s4)).opt) = lodgerref01_Pow_l0 n := funext fun s0 => funext fun s3 => funext fun s4 => ih s0 s3 s4
  exact (congrArg D.opt (runF_eq C_lodgerref01_Pow (clD C_lodgerref01_Pow 0) (hdOf C_lodgerref01_Pow hd_lodgerref01_Pow) 29 [u64] (res1 u64) n _)).trans ((en_lodgerref01_Pow (Lfix C_lodgerref01_Pow (clD C_lodgerref01_Pow 0) (hdOf C_lodgerref01_Pow hd_lodgerref01_Pow) (finW C_lodgerref01_Pow 29 [u64] (res1 u64)) n) a0).trans (congrArg (fun x => lodgerref01_Pow_e  x  a0) e0))
theorem ok_lodgerref01_Pow : SpecOK C_lodgerref01_Pow 29 sp_lodgerref01_Pow := by
  have hS := specs_ok (C := C_lodgerref01_Pow) (l := us_lodgerref01_Pow) rfl trivial
  refine spec_ok (C := C_lodgerref01_Pow) (cl := (clD C_lodgerref01_Pow 0)) (hd := (hdOf C_lodgerref01_Pow hd_lodgerref01_Pow)) envOK (tyOK_of (l := tab) rfl tabT) hS (clD_ok envOK (tyOK_of (l := tab) rfl tabT) hS mixed (inl_ok (l := []) rfl (by kernel_rfl)) _) mixed (hdOf_ok envOK hd_lodgerref01_Pow) (by kernel_rfl) [u64] (res1 u64) (de1 (S := S) u64) fun cs r h => ?_
  obtain ⟨a0, rfl, h⟩ := inv1 h
  exact ⟨big, (ev_lodgerref01_Pow big a0).trans ((def_lodgerref01_Pow a0).symm.trans h)⟩
-- lodger/lodgerref01.Has
def lodgerref01_Has_b (g_lodgerref01_Pow : Int → Option (Int)) (a0 : Int) (a1 : Int) : Option (Bool) := ((g_lodgerref01_Pow a1).bind fun r1 => (bif (r1 == 0) then none else some ((Int.tmod (IntKind.wrap .u64 (Int.tdiv a0 r1)) 2) == 1)))
def sp_lodgerref01_Has : Spec S := { args := [u64, i64], R := Bool, run := run2 u64 i64 lodgerref01_Has, enc := enc1 (S := S) Ty.bool }
def spb_lodgerref01_Has (F : Int → Int → Option (Bool)) : Spec S := { args := [u64, i64], R := Bool, run := run2 u64 i64 F, enc := enc1 (S := S) Ty.bool }
def usb_lodgerref01_Has (g_lodgerref01_Pow : Int → Option (Int)) : List (Nat × Spec S) := [(29, spb_lodgerref01_Pow g_lodgerref01_Pow)]
def us_lodgerref01_Has : List (Nat × Spec S) := [(29, sp_lodgerref01_Pow)]
noncomputable def Cb_lodgerref01_Has (g_lodgerref01_Pow : Int → Option (Int)) : Ctx S := { P := Try.prog, E := E, ty := tyL tab, G := glL gtab, spec := spL (usb_lodgerref01_Has g_lodgerref01_Pow), inl := inL [] }
noncomputable def C_lodgerref01_Has : Ctx S := Cb_lodgerref01_Has lodgerref01_Pow
theorem evb_lodgerref01_Has (g_lodgerref01_Pow : Int → Option (Int)) (L : (St S → D (Bool)) → Lp S (Bool)) (a0 : Int) (a1 : Int) : (runWF (Cb_lodgerref01_Has g_lodgerref01_Pow) (clDF (Cb_lodgerref01_Has g_lodgerref01_Pow) 0) L 11 [Ty.bool] (res1 Ty.bool) [encV E u64 a0, encV E i64 a1]).opt = lodgerref01_Has_b g_lodgerref01_Pow a0 a1 := by kernel_rfl
theorem ev_lodgerref01_Has (L : (St S → D (Bool)) → Lp S (Bool)) (a0 : Int) (a1 : Int) : (runW C_lodgerref01_Has (clD C_lodgerref01_Has 0) L 11 [Ty.bool] (res1 Ty.bool) [encV E u64 a0, encV E i64 a1]).opt = lodgerref01_Has a0 a1 := (congrArg D.opt (runWF_eq _ _ L _ _ _ _)).trans (evb_lodgerref01_Has lodgerref01_Pow L a0 a1)
theorem ok_lodgerref01_Has : SpecOK C_lodgerref01_Has 11 sp_lodgerref01_Has := by
  have hS := specs_ok (C := C_lodgerref01_Has) (l := us_lodgerref01_Has) rfl ⟨ok_lodgerref01_Pow.re rfl rfl rfl, trivial⟩
  refine spec_ok (C := C_lodgerref01_Has) (cl := (clD C_lodgerref01_Has 0)) (hd := (fun _ s => some s)) envOK (tyOK_of (l := tab) rfl tabT) hS (clD_ok envOK (tyOK_of (l := tab) rfl tabT) hS mixed (inl_ok (l := []) rfl (by kernel_rfl)) _) mixed HdOK.id (by kernel_rfl) [Ty.bool] (res1 Ty.bool) (de1 (S := S) Ty.bool) fun cs r h => ?_
  obtain ⟨a0, a1, rfl, h⟩ := inv2 h
  exact ⟨0, (ev_lodgerref01_Has _ a0 a1).trans h⟩
-- lodger/lodgerref08.Whole
def lodgerref08_Whole_s0b (g_lodgerref05_Many : Block → Option (Int)) (g_lodgerref05_Offset : Block → Int → Option (Int × Int)) (g_lodgerref06_Leaves : Int → Option (Int)) (k0 : Int → Conf → Oq → Option (Bool)) (s5 : Int) (m0 : Conf) (m1 : Oq) : Option (Bool) := (bif (decide (s5 < (List.length m1.ask.addrs : Int))) then ((geti m1.ask.addrs s5).bind fun x3 => ((g_lodgerref05_Offset m0.block x3).bind fun r4 => (bif (r4.2 != 0) then some false else k0 (IntKind.wrap .i64 (s5 + 1)) m0 m1))) else some true)
def lodgerref08_Whole_eb (g_lodgerref05_Many : Block → Option (Int)) (g_lodgerref05_Offset : Block → Int → Option (Int × Int)) (g_lodgerref06_Leaves : Int → Option (Int)) (k0 : Int → Conf → Oq → Option (Bool)) (a0 : Conf) (a1 : Oq) : Option (Bool) := (bif (decide (a1.leaf < 0)) then some false else ((g_lodgerref05_Many a0.block).bind fun r1 => ((g_lodgerref06_Leaves r1).bind fun r2 => (bif (decide (a1.leaf ≥ r2)) then some false else (bif (decide (a1.item < 0)) then some false else (bif (decide (a1.item > 1000)) then some false else (bif (decide (a1.at_ < 0)) then some false else (bif (decide (a1.at_ > 1)) then some false else (bif (decide ((List.length a1.ask.addrs : Int) > 100)) then some false else (bif (decide ((List.length a1.seen : Int) > 300)) then some false else (bif (decide ((List.length a1.answer.addrs : Int) > 300)) then some false else (bif (decide ((List.length a1.answer.errs : Int) > 300)) then some false else k0 0 a0 a1))))))))))))
def sp_lodgerref08_Whole : Spec S := { args := [(Ty.st 1), (Ty.st 4)], R := Bool, run := run2 (Ty.st 1) (Ty.st 4) lodgerref08_Whole, enc := enc1 (S := S) Ty.bool }
def spb_lodgerref08_Whole (F : Conf → Oq → Option (Bool)) : Spec S := { args := [(Ty.st 1), (Ty.st 4)], R := Bool, run := run2 (Ty.st 1) (Ty.st 4) F, enc := enc1 (S := S) Ty.bool }
def usb_lodgerref08_Whole (g_lodgerref05_Many : Block → Option (Int)) (g_lodgerref05_Offset : Block → Int → Option (Int × Int)) (g_lodgerref06_Leaves : Int → Option (Int)) : List (Nat × Spec S) := [(8, spb_lodgerref05_Many g_lodgerref05_Many), (28, spb_lodgerref05_Offset g_lodgerref05_Offset), (35, spb_lodgerref06_Leaves g_lodgerref06_Leaves)]
def us_lodgerref08_Whole : List (Nat × Spec S) := [(8, sp_lodgerref05_Many), (28, sp_lodgerref05_Offset), (35, sp_lodgerref06_Leaves)]
noncomputable def Cb_lodgerref08_Whole (g_lodgerref05_Many : Block → Option (Int)) (g_lodgerref05_Offset : Block → Int → Option (Int × Int)) (g_lodgerref06_Leaves : Int → Option (Int)) : Ctx S := { P := Try.prog, E := E, ty := tyL tab, G := glL gtab, spec := spL (usb_lodgerref08_Whole g_lodgerref05_Many g_lodgerref05_Offset g_lodgerref06_Leaves), inl := inL [] }
noncomputable def C_lodgerref08_Whole : Ctx S := Cb_lodgerref08_Whole lodgerref05_Many lodgerref05_Offset lodgerref06_Leaves
def hd_lodgerref08_Whole : List ((Nat × Nat) × List Hs) := [((2, 4), [.canon 2 [0, 1] [2, 3, 5], .plain 5 i64, .plainB 0 0 (Ty.st 1), .plainB 1 0 (Ty.st 4)])]
def h0_lodgerref08_Whole (s5 : Int) (m0 : Conf) (m1 : Oq) : St S := { tmps := [.undef, .undef, .ptr 0 0, .ptr 1 0, .undef, .cell i64 s5, .undef, .undef, .undef, .undef, .undef, .undef, .undef, .undef, .undef, .undef, .undef, .undef, .undef, .undef, .undef, .undef, .undef, .undef, .undef, .undef, .undef, .undef, .undef, .undef, .undef, .undef, .undef, .undef, .undef, .undef, .undef, .undef, .undef, .undef, .undef, .undef, .undef, .undef, .undef, .undef, .undef, .undef, .undef, .undef, .undef, .undef, .undef, .undef, .undef, .undef, .undef, .undef, .undef, .undef, .undef, .undef, .undef, .undef, .undef, .undef, .undef, .undef, .undef, .undef, .undef, .undef, .undef, .undef, .undef, .undef, .undef, .undef, .undef, .undef, .undef, .undef, .undef, .undef, .undef, .undef, .undef, .undef, .undef], mem := [.box [.cell u32 m0.block.base, .cell i64 m0.block.pre, .cell (Ty.slice i64) m0.held, .cell i64 m0.shards, .cell i64 m0.workers, .cell i64 m0.queue, .cell i64 m0.tries] false, .box [.cell i64 m1.ask.kind, .cell u32 m1.ask.addr, .cell (Ty.slice u32) m1.ask.addrs, .cell i64 m1.answer.err, .cell u32 m1.answer.addr, .cell Ty.bool m1.answer.used, .cell (Ty.slice u32) m1.answer.addrs, .cell (Ty.slice i64) m1.answer.errs, .cell i64 m1.phase, .cell i64 m1.shard, .cell i64 m1.sought, .cell i64 m1.leaf, .cell i64 m1.bit, .cell u64 m1.word, .cell Ty.bool m1.full, .cell (Ty.slice u64) m1.seen, .cell i64 m1.at_, .cell i64 m1.tries, .cell i64 m1.item, .cell i64 m1.stamp] false] }
theorem rdb0_lodgerref08_Whole (g_lodgerref05_Many : Block → Option (Int)) (g_lodgerref05_Offset : Block → Int → Option (Int × Int)) (g_lodgerref06_Leaves : Int → Option (Int)) (L : Lp S (Bool)) (s5 : Int) (m0 : Conf) (m1 : Oq) : (roundWF (Cb_lodgerref08_Whole g_lodgerref05_Many g_lodgerref05_Offset g_lodgerref06_Leaves) (clDF (Cb_lodgerref08_Whole g_lodgerref05_Many g_lodgerref05_Offset g_lodgerref06_Leaves) 0) (hdOf (Cb_lodgerref08_Whole g_lodgerref05_Many g_lodgerref05_Offset g_lodgerref06_Leaves) hd_lodgerref08_Whole) 32 0 [Ty.bool] (res1 Ty.bool) L (h0_lodgerref08_Whole s5 m0 m1)).opt = lodgerref08_Whole_s0b g_lodgerref05_Many g_lodgerref05_Offset g_lodgerref06_Leaves (fun s5 m0 m1 => (L (todoOf (Cb_lodgerref08_Whole g_lodgerref05_Many g_lodgerref05_Offset g_lodgerref06_Leaves) 32 0) (h0_lodgerref08_Whole s5 m0 m1)).opt) s5 m0 m1 := by kernel_rfl
theorem rd0_lodgerref08_Whole (L : Lp S (Bool)) (s5 : Int) (m0 : Conf) (m1 : Oq) : (roundW C_lodgerref08_Whole (clD C_lodgerref08_Whole 0) (hdOf C_lodgerref08_Whole hd_lodgerref08_Whole) 32 0 [Ty.bool] (res1 Ty.bool) L (h0_lodgerref08_Whole s5 m0 m1)).opt = lodgerref08_Whole_s0 (fun s5 m0 m1 => (L (todoOf C_lodgerref08_Whole 32 0) (h0_lodgerref08_Whole s5 m0 m1)).opt) s5 m0 m1 := (congrArg D.opt (roundWF_eq _ _ _ _ _ _ _ L _)).trans (rdb0_lodgerref08_Whole lodgerref05_Many lodgerref05_Offset lodgerref06_Leaves L s5 m0 m1)
theorem enb_lodgerref08_Whole (g_lodgerref05_Many : Block → Option (Int)) (g_lodgerref05_Offset : Block → Int → Option (Int × Int)) (g_lodgerref06_Leaves : Int → Option (Int)) (L : Lp S (Bool)) (a0 : Conf) (a1 : Oq) : (runWF (Cb_lodgerref08_Whole g_lodgerref05_Many g_lodgerref05_Offset g_lodgerref06_Leaves) (clDF (Cb_lodgerref08_Whole g_lodgerref05_Many g_lodgerref05_Offset g_lodgerref06_Leaves) 0) (fun _ => canonL (hdOf (Cb_lodgerref08_Whole g_lodgerref05_Many g_lodgerref05_Offset g_lodgerref06_Leaves) hd_lodgerref08_Whole) L) 32 [Ty.bool] (res1 Ty.bool) [encV E (Ty.st 1) a0, encV E (Ty.st 4) a1]).opt = lodgerref08_Whole_eb g_lodgerref05_Many g_lodgerref05_Offset g_lodgerref06_Leaves (fun s5 m0 m1 => (L (todoOf (Cb_lodgerref08_Whole g_lodgerref05_Many g_lodgerref05_Offset g_lodgerref06_Leaves) 32 0) (h0_lodgerref08_Whole s5 m0 m1)).opt) a0 a1 := by kernel_rfl
theorem en_lodgerref08_Whole (L : Lp S (Bool)) (a0 : Conf) (a1 : Oq) : (runW C_lodgerref08_Whole (clD C_lodgerref08_Whole 0) (fun _ => canonL (hdOf C_lodgerref08_Whole hd_lodgerref08_Whole) L) 32 [Ty.bool] (res1 Ty.bool) [encV E (Ty.st 1) a0, encV E (Ty.st 4) a1]).opt = lodgerref08_Whole_e (fun s5 m0 m1 => (L (todoOf C_lodgerref08_Whole 32 0) (h0_lodgerref08_Whole s5 m0 m1)).opt) a0 a1 := (congrArg D.opt (runWF_eq _ _ _ _ _ _ _)).trans (enb_lodgerref08_Whole lodgerref05_Many lodgerref05_Offset lodgerref06_Leaves L a0 a1)
theorem fx_lodgerref08_Whole : ∀ n, (∀ (s5 : Int) (m0 : Conf) (m1 : Oq), (Lfix C_lodgerref08_Whole (clD C_lodgerref08_Whole 0) (hdOf C_lodgerref08_Whole hd_lodgerref08_Whole) (finW C_lodgerref08_Whole 32 [Ty.bool] (res1 Ty.bool)) n (todoOf C_lodgerref08_Whole 32 0) (h0_lodgerref08_Whole s5 m0 m1)).opt = lodgerref08_Whole_l0 n s5 m0 m1)
  | 0 => fun _ _ _ => rfl
  | n + 1 => by
    have ih := fx_lodgerref08_Whole n
    have e0 : (fun s5 m0 m1 => (Lfix C_lodgerref08_Whole (clD C_lodgerref08_Whole 0) (hdOf C_lodgerref08_Whole hd_lodgerref08_Whole) (finW C_lodgerref08_Whole 32 [Ty.bool] (res1 Ty.bool)) n (todoOf C_lodgerref08_Whole 32 0) (h0_lodgerref08_Whole s5 m0 m1)).opt) = lodgerref08_Whole_l0 n := funext fun s5 => funext fun m0 => funext fun m1 => ih s5 m0 m1
    exact fun s5 m0 m1 => (congrArg D.opt (Lfix_round C_lodgerref08_Whole (clD C_lodgerref08_Whole 0) (hdOf C_lodgerref08_Whole hd_lodgerref08_Whole) 32 0 [Ty.bool] (res1 Ty.bool) n _)).trans ((rd0_lodgerref08_Whole (Lfix C_lodgerref08_Whole (clD C_lodgerref08_Whole 0) (hdOf C_lodgerref08_Whole hd_lodgerref08_Whole) (finW C_lodgerref08_Whole 32 [Ty.bool] (res1 Ty.bool)) n) s5 m0 m1).trans (congrArg (fun x => lodgerref08_Whole_s0  x  s5 m0 m1) e0))
theorem ev_lodgerref08_Whole (n : Nat) (a0 : Conf) (a1 : Oq) : (runF C_lodgerref08_Whole (clD C_lodgerref08_Whole 0) (hdOf C_lodgerref08_Whole hd_lodgerref08_Whole) 32 [Ty.bool] (res1 Ty.bool) n [encV E (Ty.st 1) a0, encV E (Ty.st 4) a1]).opt = lodgerref08_Whole_n n a0 a1 := by
  have ih := fx_lodgerref08_Whole n
  have e0 : (fun s5 m0 m1 => (Lfix C_lodgerref08_Whole (clD C_lodgerref08_Whole 0) (hdOf C_lodgerref08_Whole hd_lodgerref08_Whole) (finW C_lodgerref08_Whole 32 [Ty.bool] (res1 Ty.bool)) n (todoOf C_lodgerref08_Whole 32 0) (h0_lodgerref08_Whole s5 m0 m1)).opt) = lodgerref08_Whole_l0 n := funext fun s5 => funext fun m0 => funext fun m1 => ih s5 m0 m1
  exact (congrArg D.opt (runF_eq C_lodgerref08_Whole (clD C_lodgerref08_Whole 0) (hdOf C_lodgerref08_Whole hd_lodgerref08_Whole) 32 [Ty.bool] (res1 Ty.bool) n _)).trans ((en_lodgerref08_Whole (Lfix C_lodgerref08_Whole (clD C_lodgerref08_Whole 0) (hdOf C_lodgerref08_Whole hd_lodgerref08_Whole) (finW C_lodgerref08_Whole 32 [Ty.bool] (res1 Ty.bool)) n) a0 a1).trans (congrArg (fun x => lodgerref08_Whole_e  x  a0 a1) e0))
theorem ok_lodgerref08_Whole : SpecOK C_lodgerref08_Whole 32 sp_lodgerref08_Whole := by
  have hS := specs_ok (C := C_lodgerref08_Whole) (l := us_lodgerref08_Whole) rfl ⟨ok_lodgerref05_Many.re rfl rfl rfl, ok_lodgerref05_Offset.re rfl rfl rfl, ok_lodgerref06_Leaves.re rfl rfl rfl, trivial⟩
  refine spec_ok (C := C_lodgerref08_Whole) (cl := (clD C_lodgerref08_Whole 0)) (hd := (hdOf C_lodgerref08_Whole hd_lodgerref08_Whole)) envOK (tyOK_of (l := tab) rfl tabT) hS (clD_ok envOK (tyOK_of (l := tab) rfl tabT) hS mixed (inl_ok (l := []) rfl (by kernel_rfl)) _) mixed (hdOf_ok envOK hd_lodgerref08_Whole) (by kernel_rfl) [Ty.bool] (res1 Ty.bool) (de1 (S := S) Ty.bool) fun cs r h => ?_
  obtain ⟨a0, a1, rfl, h⟩ := inv2 h
  exact ⟨big, (ev_lodgerref08_Whole big a0 a1).trans ((def_lodgerref08_Whole a0 a1).symm.trans h)⟩
-- lodger/lodgerref13.Fits
def lodgerref13_Fits_b (g_lodgerref08_Fits : Conf → (List Int) → Option (Bool)) (g_lodgerref05_Many : Block → Option (Int)) (g_lodgerref08_Whole : Conf → Oq → Option (Bool)) (a0 : Conf) (a1 : (List Int)) (a2 : Oq) : Option (Bool) := ((g_lodgerref08_Fits a0 a1).bind fun r1 => (bif r1 then ((g_lodgerref08_Whole a0 a2).bind fun r2 => (bif r2 then (bif (decide (a2.bit ≥ 0)) then (bif (decide (a2.bit ≤ 31)) then ((g_lodgerref05_Many a0.block).bind fun r3 => (bif (decide ((IntKind.wrap .i64 ((IntKind.wrap .i64 (32 * a2.leaf)) + a2.bit)) < r3)) then (bif (decide (a2.sought ≥ 0)) then some (decide (a2.sought ≤ 1000)) else some false) else some false)) else some false) else some false) else some false)) else some false))
def sp_lodgerref13_Fits : Spec S := { args := [(Ty.st 1), (Ty.slice u64), (Ty.st 4)], R := Bool, run := run3 (Ty.st 1) (Ty.slice u64) (Ty.st 4) lodgerref13_Fits, enc := enc1 (S := S) Ty.bool }
def spb_lodgerref13_Fits (F : Conf → (List Int) → Oq → Option (Bool)) : Spec S := { args := [(Ty.st 1), (Ty.slice u64), (Ty.st 4)], R := Bool, run := run3 (Ty.st 1) (Ty.slice u64) (Ty.st 4) F, enc := enc1 (S := S) Ty.bool }
def usb_lodgerref13_Fits (g_lodgerref08_Fits : Conf → (List Int) → Option (Bool)) (g_lodgerref05_Many : Block → Option (Int)) (g_lodgerref08_Whole : Conf → Oq → Option (Bool)) : List (Nat × Spec S) := [(7, spb_lodgerref08_Fits g_lodgerref08_Fits), (8, spb_lodgerref05_Many g_lodgerref05_Many), (32, spb_lodgerref08_Whole g_lodgerref08_Whole)]
def us_lodgerref13_Fits : List (Nat × Spec S) := [(7, sp_lodgerref08_Fits), (8, sp_lodgerref05_Many), (32, sp_lodgerref08_Whole)]
noncomputable def Cb_lodgerref13_Fits (g_lodgerref08_Fits : Conf → (List Int) → Option (Bool)) (g_lodgerref05_Many : Block → Option (Int)) (g_lodgerref08_Whole : Conf → Oq → Option (Bool)) : Ctx S := { P := Try.prog, E := E, ty := tyL tab, G := glL gtab, spec := spL (usb_lodgerref13_Fits g_lodgerref08_Fits g_lodgerref05_Many g_lodgerref08_Whole), inl := inL [] }
noncomputable def C_lodgerref13_Fits : Ctx S := Cb_lodgerref13_Fits lodgerref08_Fits lodgerref05_Many lodgerref08_Whole
theorem evb_lodgerref13_Fits (g_lodgerref08_Fits : Conf → (List Int) → Option (Bool)) (g_lodgerref05_Many : Block → Option (Int)) (g_lodgerref08_Whole : Conf → Oq → Option (Bool)) (L : (St S → D (Bool)) → Lp S (Bool)) (a0 : Conf) (a1 : (List Int)) (a2 : Oq) : (runWF (Cb_lodgerref13_Fits g_lodgerref08_Fits g_lodgerref05_Many g_lodgerref08_Whole) (clDF (Cb_lodgerref13_Fits g_lodgerref08_Fits g_lodgerref05_Many g_lodgerref08_Whole) 0) L 14 [Ty.bool] (res1 Ty.bool) [encV E (Ty.st 1) a0, encV E (Ty.slice u64) a1, encV E (Ty.st 4) a2]).opt = lodgerref13_Fits_b g_lodgerref08_Fits g_lodgerref05_Many g_lodgerref08_Whole a0 a1 a2 := by kernel_rfl
theorem ev_lodgerref13_Fits (L : (St S → D (Bool)) → Lp S (Bool)) (a0 : Conf) (a1 : (List Int)) (a2 : Oq) : (runW C_lodgerref13_Fits (clD C_lodgerref13_Fits 0) L 14 [Ty.bool] (res1 Ty.bool) [encV E (Ty.st 1) a0, encV E (Ty.slice u64) a1, encV E (Ty.st 4) a2]).opt = lodgerref13_Fits a0 a1 a2 := (congrArg D.opt (runWF_eq _ _ L _ _ _ _)).trans (evb_lodgerref13_Fits lodgerref08_Fits lodgerref05_Many lodgerref08_Whole L a0 a1 a2)
theorem ok_lodgerref13_Fits : SpecOK C_lodgerref13_Fits 14 sp_lodgerref13_Fits := by
  have hS := specs_ok (C := C_lodgerref13_Fits) (l := us_lodgerref13_Fits) rfl ⟨ok_lodgerref08_Fits.re rfl rfl rfl, ok_lodgerref05_Many.re rfl rfl rfl, ok_lodgerref08_Whole.re rfl rfl rfl, trivial⟩
  refine spec_ok (C := C_lodgerref13_Fits) (cl := (clD C_lodgerref13_Fits 0)) (hd := (fun _ s => some s)) envOK (tyOK_of (l := tab) rfl tabT) hS (clD_ok envOK (tyOK_of (l := tab) rfl tabT) hS mixed (inl_ok (l := []) rfl (by kernel_rfl)) _) mixed HdOK.id (by kernel_rfl) [Ty.bool] (res1 Ty.bool) (de1 (S := S) Ty.bool) fun cs r h => ?_
  obtain ⟨a0, a1, a2, rfl, h⟩ := inv3 h
  exact ⟨0, (ev_lodgerref13_Fits _ a0 a1 a2).trans h⟩
-- lodger/lodgerlaw14.gives
def lodgerlaw14_gives_b  (a0 : Oq) : Option (Bool) := (bif (a0.ask.kind == 3) then (bif (a0.phase == 8) then some true else some (a0.phase == 9)) else (bif (a0.ask.kind == 4) then (bif (a0.phase == 8) then some true else some (a0.phase == 9)) else some false))
def sp_lodgerlaw14_gives : Spec S := { args := [(Ty.st 4)], R := Bool, run := run1 (Ty.st 4) lodgerlaw14_gives, enc := enc1 (S := S) Ty.bool }
def spb_lodgerlaw14_gives (F : Oq → Option (Bool)) : Spec S := { args := [(Ty.st 4)], R := Bool, run := run1 (Ty.st 4) F, enc := enc1 (S := S) Ty.bool }
def usb_lodgerlaw14_gives  : List (Nat × Spec S) := []
def us_lodgerlaw14_gives : List (Nat × Spec S) := []
noncomputable def Cb_lodgerlaw14_gives  : Ctx S := { P := Try.prog, E := E, ty := tyL tab, G := glL gtab, spec := spL (usb_lodgerlaw14_gives ), inl := inL [] }
noncomputable def C_lodgerlaw14_gives : Ctx S := Cb_lodgerlaw14_gives 
theorem evb_lodgerlaw14_gives  (L : (St S → D (Bool)) → Lp S (Bool)) (a0 : Oq) : (runWF (Cb_lodgerlaw14_gives ) (clDF (Cb_lodgerlaw14_gives ) 0) L 15 [Ty.bool] (res1 Ty.bool) [encV E (Ty.st 4) a0]).opt = lodgerlaw14_gives_b  a0 := by kernel_rfl
theorem ev_lodgerlaw14_gives (L : (St S → D (Bool)) → Lp S (Bool)) (a0 : Oq) : (runW C_lodgerlaw14_gives (clD C_lodgerlaw14_gives 0) L 15 [Ty.bool] (res1 Ty.bool) [encV E (Ty.st 4) a0]).opt = lodgerlaw14_gives a0 := (congrArg D.opt (runWF_eq _ _ L _ _ _ _)).trans (evb_lodgerlaw14_gives  L a0)
theorem ok_lodgerlaw14_gives : SpecOK C_lodgerlaw14_gives 15 sp_lodgerlaw14_gives := by
  have hS := specs_ok (C := C_lodgerlaw14_gives) (l := us_lodgerlaw14_gives) rfl trivial
  refine spec_ok (C := C_lodgerlaw14_gives) (cl := (clD C_lodgerlaw14_gives 0)) (hd := (fun _ s => some s)) envOK (tyOK_of (l := tab) rfl tabT) hS (clD_ok envOK (tyOK_of (l := tab) rfl tabT) hS mixed (inl_ok (l := []) rfl (by kernel_rfl)) _) mixed HdOK.id (by kernel_rfl) [Ty.bool] (res1 Ty.bool) (de1 (S := S) Ty.bool) fun cs r h => ?_
  obtain ⟨a0, rfl, h⟩ := inv1 h
  exact ⟨0, (ev_lodgerlaw14_gives _ a0).trans h⟩
-- lodger/word.Changes
def word_Changes_b  (a0 : Int) : Option (Int) := some (IntKind.wrap .u32 (shr .u64 a0 32))
def sp_word_Changes : Spec S := { args := [u64], R := Int, run := run1 u64 word_Changes, enc := enc1 (S := S) u32 }
def spb_word_Changes (F : Int → Option (Int)) : Spec S := { args := [u64], R := Int, run := run1 u64 F, enc := enc1 (S := S) u32 }
def usb_word_Changes  : List (Nat × Spec S) := []
def us_word_Changes : List (Nat × Spec S) := []
noncomputable def Cb_word_Changes  : Ctx S := { P := Try.prog, E := E, ty := tyL tab, G := glL gtab, spec := spL (usb_word_Changes ), inl := inL [] }
noncomputable def C_word_Changes : Ctx S := Cb_word_Changes 
theorem evb_word_Changes  (L : (St S → D (Int)) → Lp S (Int)) (a0 : Int) : (runWF (Cb_word_Changes ) (clDF (Cb_word_Changes ) 0) L 18 [u32] (res1 u32) [encV E u64 a0]).opt = word_Changes_b  a0 := by kernel_rfl
theorem ev_word_Changes (L : (St S → D (Int)) → Lp S (Int)) (a0 : Int) : (runW C_word_Changes (clD C_word_Changes 0) L 18 [u32] (res1 u32) [encV E u64 a0]).opt = word_Changes a0 := (congrArg D.opt (runWF_eq _ _ L _ _ _ _)).trans (evb_word_Changes  L a0)
theorem ok_word_Changes : SpecOK C_word_Changes 18 sp_word_Changes := by
  have hS := specs_ok (C := C_word_Changes) (l := us_word_Changes) rfl trivial
  refine spec_ok (C := C_word_Changes) (cl := (clD C_word_Changes 0)) (hd := (fun _ s => some s)) envOK (tyOK_of (l := tab) rfl tabT) hS (clD_ok envOK (tyOK_of (l := tab) rfl tabT) hS mixed (inl_ok (l := []) rfl (by kernel_rfl)) _) mixed HdOK.id (by kernel_rfl) [u32] (res1 u32) (de1 (S := S) u32) fun cs r h => ?_
  obtain ⟨a0, rfl, h⟩ := inv1 h
  exact ⟨0, (ev_word_Changes _ a0).trans h⟩
end Go.Lv.Ld
