import Derived.Shelf.SlGeneric
import Derived.Ground.SlgnProg
import Derived.Shelf.SlicesE.Clone
import Derived.Test.YtonphdpgepnenaaDoorLvD5
import Derived.Test.YtonphdpgepnenaaDoorChecked
import Derived.Test.YtonphdpgepnenaaDoorLvStr
namespace Go.Lv.Ld
open Go Go.Lv Go.Proofs
set_option linter.all false
set_option maxRecDepth 100000
def gtab : List (Nat × List (V S)) := [(0, [.cmap [(1, .ifc 121), (2, .ifc 122), (3, .ifc 123), (4, .ifc 123), (5, .ifc 122), (6, .ifc 124)]]), (1, [.cell Ty.bool false, .cell Ty.bool false, .cell Ty.bool true, .cell Ty.bool true, .cell Ty.bool false, .cell Ty.bool true])]
def tab : List (Nat × Ty) := [(2, i64), (3, i64), (4, Ty.bool), (5, (Ty.int .u8)), (6, (Ty.int .u8)), (9, Ty.str), (10, Ty.str), (11, Ty.str), (12, u64), (21, (Ty.int .i32)), (22, u32), (24, (Ty.st 0)), (25, (Ty.slice i64)), (27, (Ty.st 1)), (28, (Ty.slice u32)), (30, (Ty.st 2)), (34, (Ty.slice u64)), (37, i64), (38, (Ty.slice i64)), (40, (Ty.st 3)), (41, u64), (43, (Ty.st 4)), (92, u64), (111, (Ty.int .u8)), (112, (Ty.int .u8)), (115, (Ty.int .i32)), (116, (Ty.int .i32)), (158, (Ty.slice (Ty.slice u64))), (172, u64), (175, (Ty.slice (Ty.slice i64)))]
theorem tabT : tab.all (tyB Tryd.prog E) = true := by kernel_rfl
theorem tabF : tab.all (tabB Tryd.prog E (tyL tab)) = true := by kernel_rfl
theorem mixed : Tryd.prog.follows .mixedOrders = true := Checked.mixed Tryd.checked
-- lodger/block.Many
def block_Many_b  (a0 : Block) : Option (Int) := (bif (decide ((IntKind.wrap .u64 (IntKind.wrap .i64 (32 - a0.pre))) < 0)) then none else some (shl .i64 1 (IntKind.wrap .u64 (IntKind.wrap .i64 (32 - a0.pre)))))
def sp_block_Many : Spec S := { args := [(Ty.st 0)], R := Int, run := run1 (Ty.st 0) block_Many, enc := enc1 (S := S) i64 }
def spb_block_Many (F : Block → Option (Int)) : Spec S := { args := [(Ty.st 0)], R := Int, run := run1 (Ty.st 0) F, enc := enc1 (S := S) i64 }
def usb_block_Many  : List (Nat × Spec S) := []
def us_block_Many : List (Nat × Spec S) := []
noncomputable def Cb_block_Many  : Ctx S := { P := Tryd.prog, E := E, ty := tyL tab, G := glL gtab, spec := spL (usb_block_Many ), inl := inL [] }
noncomputable def C_block_Many : Ctx S := Cb_block_Many 
theorem evb_block_Many  (L : (St S → D (Int)) → Lp S (Int)) (a0 : Block) : (runWF (Cb_block_Many ) (clDF (Cb_block_Many ) 0) L 25 [i64] (res1 i64) [encV E (Ty.st 0) a0]).opt = block_Many_b  a0 := by kernel_rfl
theorem ev_block_Many (L : (St S → D (Int)) → Lp S (Int)) (a0 : Block) : (runW C_block_Many (clD C_block_Many 0) L 25 [i64] (res1 i64) [encV E (Ty.st 0) a0]).opt = block_Many a0 := (congrArg D.opt (runWF_eq _ _ L _ _ _ _)).trans (evb_block_Many  L a0)
theorem ok_block_Many : SpecOK C_block_Many 25 sp_block_Many := by
  have hS := specs_ok (C := C_block_Many) (l := us_block_Many) rfl trivial
  refine spec_ok (C := C_block_Many) (cl := (clD C_block_Many 0)) (hd := (fun _ s => some s)) envOK (tyOK_of (l := tab) rfl tabT) hS (clD_ok envOK (tyOK_of (l := tab) rfl tabT) hS mixed (inl_ok (l := []) rfl (by kernel_rfl)) _) mixed HdOK.id (by kernel_rfl) [i64] (res1 i64) (de1 (S := S) i64) fun cs r h => ?_
  obtain ⟨a0, rfl, h⟩ := inv1 h
  exact ⟨0, (ev_block_Many _ a0).trans h⟩
-- lodger/place.up[int]
def place_up_int__b  (a0 : Int) (a1 : Int) : Option (Int) := (bif (a1 == 0) then none else some (IntKind.wrap .i64 (Int.tdiv (IntKind.wrap .i64 ((IntKind.wrap .i64 (a0 + a1)) - 1)) a1)))
def sp_place_up_int_ : Spec S := { args := [i64, i64], R := Int, run := run2 i64 i64 place_up_int_, enc := enc1 (S := S) i64 }
def spb_place_up_int_ (F : Int → Int → Option (Int)) : Spec S := { args := [i64, i64], R := Int, run := run2 i64 i64 F, enc := enc1 (S := S) i64 }
def usb_place_up_int_  : List (Nat × Spec S) := []
def us_place_up_int_ : List (Nat × Spec S) := []
noncomputable def Cb_place_up_int_  : Ctx S := { P := Tryd.prog, E := E, ty := tyL tab, G := glL gtab, spec := spL (usb_place_up_int_ ), inl := inL [] }
noncomputable def C_place_up_int_ : Ctx S := Cb_place_up_int_ 
theorem evb_place_up_int_  (L : (St S → D (Int)) → Lp S (Int)) (a0 : Int) (a1 : Int) : (runWF (Cb_place_up_int_ ) (clDF (Cb_place_up_int_ ) 0) L 58 [i64] (res1 i64) [encV E i64 a0, encV E i64 a1]).opt = place_up_int__b  a0 a1 := by kernel_rfl
theorem ev_place_up_int_ (L : (St S → D (Int)) → Lp S (Int)) (a0 : Int) (a1 : Int) : (runW C_place_up_int_ (clD C_place_up_int_ 0) L 58 [i64] (res1 i64) [encV E i64 a0, encV E i64 a1]).opt = place_up_int_ a0 a1 := (congrArg D.opt (runWF_eq _ _ L _ _ _ _)).trans (evb_place_up_int_  L a0 a1)
theorem ok_place_up_int_ : SpecOK C_place_up_int_ 58 sp_place_up_int_ := by
  have hS := specs_ok (C := C_place_up_int_) (l := us_place_up_int_) rfl trivial
  refine spec_ok (C := C_place_up_int_) (cl := (clD C_place_up_int_ 0)) (hd := (fun _ s => some s)) envOK (tyOK_of (l := tab) rfl tabT) hS (clD_ok envOK (tyOK_of (l := tab) rfl tabT) hS mixed (inl_ok (l := []) rfl (by kernel_rfl)) _) mixed HdOK.id (by kernel_rfl) [i64] (res1 i64) (de1 (S := S) i64) fun cs r h => ?_
  obtain ⟨a0, a1, rfl, h⟩ := inv2 h
  exact ⟨0, (ev_place_up_int_ _ a0 a1).trans h⟩
-- lodger/place.Leaves
def place_Leaves_b (g_place_up_int_ : Int → Int → Option (Int)) (a0 : Int) : Option (Int) := ((g_place_up_int_ a0 32).bind fun r1 => some r1)
def sp_place_Leaves : Spec S := { args := [i64], R := Int, run := run1 i64 place_Leaves, enc := enc1 (S := S) i64 }
def spb_place_Leaves (F : Int → Option (Int)) : Spec S := { args := [i64], R := Int, run := run1 i64 F, enc := enc1 (S := S) i64 }
def usb_place_Leaves (g_place_up_int_ : Int → Int → Option (Int)) : List (Nat × Spec S) := [(58, spb_place_up_int_ g_place_up_int_)]
def us_place_Leaves : List (Nat × Spec S) := [(58, sp_place_up_int_)]
noncomputable def Cb_place_Leaves (g_place_up_int_ : Int → Int → Option (Int)) : Ctx S := { P := Tryd.prog, E := E, ty := tyL tab, G := glL gtab, spec := spL (usb_place_Leaves g_place_up_int_), inl := inL [] }
noncomputable def C_place_Leaves : Ctx S := Cb_place_Leaves place_up_int_
theorem evb_place_Leaves (g_place_up_int_ : Int → Int → Option (Int)) (L : (St S → D (Int)) → Lp S (Int)) (a0 : Int) : (runWF (Cb_place_Leaves g_place_up_int_) (clDF (Cb_place_Leaves g_place_up_int_) 0) L 29 [i64] (res1 i64) [encV E i64 a0]).opt = place_Leaves_b g_place_up_int_ a0 := by kernel_rfl
theorem ev_place_Leaves (L : (St S → D (Int)) → Lp S (Int)) (a0 : Int) : (runW C_place_Leaves (clD C_place_Leaves 0) L 29 [i64] (res1 i64) [encV E i64 a0]).opt = place_Leaves a0 := (congrArg D.opt (runWF_eq _ _ L _ _ _ _)).trans (evb_place_Leaves place_up_int_ L a0)
theorem ok_place_Leaves : SpecOK C_place_Leaves 29 sp_place_Leaves := by
  have hS := specs_ok (C := C_place_Leaves) (l := us_place_Leaves) rfl ⟨ok_place_up_int_.re rfl rfl rfl, trivial⟩
  refine spec_ok (C := C_place_Leaves) (cl := (clD C_place_Leaves 0)) (hd := (fun _ s => some s)) envOK (tyOK_of (l := tab) rfl tabT) hS (clD_ok envOK (tyOK_of (l := tab) rfl tabT) hS mixed (inl_ok (l := []) rfl (by kernel_rfl)) _) mixed HdOK.id (by kernel_rfl) [i64] (res1 i64) (de1 (S := S) i64) fun cs r h => ?_
  obtain ⟨a0, rfl, h⟩ := inv1 h
  exact ⟨0, (ev_place_Leaves _ a0).trans h⟩
-- lodger/place.Tops
def place_Tops_b (g_place_Leaves : Int → Option (Int)) (g_place_up_int_ : Int → Int → Option (Int)) (a0 : Int) : Option (Int) := ((g_place_Leaves a0).bind fun r1 => ((g_place_up_int_ r1 64).bind fun r2 => some r2))
def sp_place_Tops : Spec S := { args := [i64], R := Int, run := run1 i64 place_Tops, enc := enc1 (S := S) i64 }
def spb_place_Tops (F : Int → Option (Int)) : Spec S := { args := [i64], R := Int, run := run1 i64 F, enc := enc1 (S := S) i64 }
def usb_place_Tops (g_place_Leaves : Int → Option (Int)) (g_place_up_int_ : Int → Int → Option (Int)) : List (Nat × Spec S) := [(29, spb_place_Leaves g_place_Leaves), (58, spb_place_up_int_ g_place_up_int_)]
def us_place_Tops : List (Nat × Spec S) := [(29, sp_place_Leaves), (58, sp_place_up_int_)]
noncomputable def Cb_place_Tops (g_place_Leaves : Int → Option (Int)) (g_place_up_int_ : Int → Int → Option (Int)) : Ctx S := { P := Tryd.prog, E := E, ty := tyL tab, G := glL gtab, spec := spL (usb_place_Tops g_place_Leaves g_place_up_int_), inl := inL [] }
noncomputable def C_place_Tops : Ctx S := Cb_place_Tops place_Leaves place_up_int_
theorem evb_place_Tops (g_place_Leaves : Int → Option (Int)) (g_place_up_int_ : Int → Int → Option (Int)) (L : (St S → D (Int)) → Lp S (Int)) (a0 : Int) : (runWF (Cb_place_Tops g_place_Leaves g_place_up_int_) (clDF (Cb_place_Tops g_place_Leaves g_place_up_int_) 0) L 27 [i64] (res1 i64) [encV E i64 a0]).opt = place_Tops_b g_place_Leaves g_place_up_int_ a0 := by kernel_rfl
theorem ev_place_Tops (L : (St S → D (Int)) → Lp S (Int)) (a0 : Int) : (runW C_place_Tops (clD C_place_Tops 0) L 27 [i64] (res1 i64) [encV E i64 a0]).opt = place_Tops a0 := (congrArg D.opt (runWF_eq _ _ L _ _ _ _)).trans (evb_place_Tops place_Leaves place_up_int_ L a0)
theorem ok_place_Tops : SpecOK C_place_Tops 27 sp_place_Tops := by
  have hS := specs_ok (C := C_place_Tops) (l := us_place_Tops) rfl ⟨ok_place_Leaves.re rfl rfl rfl, ok_place_up_int_.re rfl rfl rfl, trivial⟩
  refine spec_ok (C := C_place_Tops) (cl := (clD C_place_Tops 0)) (hd := (fun _ s => some s)) envOK (tyOK_of (l := tab) rfl tabT) hS (clD_ok envOK (tyOK_of (l := tab) rfl tabT) hS mixed (inl_ok (l := []) rfl (by kernel_rfl)) _) mixed HdOK.id (by kernel_rfl) [i64] (res1 i64) (de1 (S := S) i64) fun cs r h => ?_
  obtain ⟨a0, rfl, h⟩ := inv1 h
  exact ⟨0, (ev_place_Tops _ a0).trans h⟩
-- lodger/place.Cells
def place_Cells_b (g_place_Tops : Int → Option (Int)) (g_place_Leaves : Int → Option (Int)) (a0 : Int) : Option (Int) := ((g_place_Leaves a0).bind fun r1 => ((g_place_Tops a0).bind fun r2 => some (IntKind.wrap .i64 ((IntKind.wrap .i64 (r1 + r2)) + 1))))
def sp_place_Cells : Spec S := { args := [i64], R := Int, run := run1 i64 place_Cells, enc := enc1 (S := S) i64 }
def spb_place_Cells (F : Int → Option (Int)) : Spec S := { args := [i64], R := Int, run := run1 i64 F, enc := enc1 (S := S) i64 }
def usb_place_Cells (g_place_Tops : Int → Option (Int)) (g_place_Leaves : Int → Option (Int)) : List (Nat × Spec S) := [(27, spb_place_Tops g_place_Tops), (29, spb_place_Leaves g_place_Leaves)]
def us_place_Cells : List (Nat × Spec S) := [(27, sp_place_Tops), (29, sp_place_Leaves)]
noncomputable def Cb_place_Cells (g_place_Tops : Int → Option (Int)) (g_place_Leaves : Int → Option (Int)) : Ctx S := { P := Tryd.prog, E := E, ty := tyL tab, G := glL gtab, spec := spL (usb_place_Cells g_place_Tops g_place_Leaves), inl := inL [] }
noncomputable def C_place_Cells : Ctx S := Cb_place_Cells place_Tops place_Leaves
theorem evb_place_Cells (g_place_Tops : Int → Option (Int)) (g_place_Leaves : Int → Option (Int)) (L : (St S → D (Int)) → Lp S (Int)) (a0 : Int) : (runWF (Cb_place_Cells g_place_Tops g_place_Leaves) (clDF (Cb_place_Cells g_place_Tops g_place_Leaves) 0) L 26 [i64] (res1 i64) [encV E i64 a0]).opt = place_Cells_b g_place_Tops g_place_Leaves a0 := by kernel_rfl
theorem ev_place_Cells (L : (St S → D (Int)) → Lp S (Int)) (a0 : Int) : (runW C_place_Cells (clD C_place_Cells 0) L 26 [i64] (res1 i64) [encV E i64 a0]).opt = place_Cells a0 := (congrArg D.opt (runWF_eq _ _ L _ _ _ _)).trans (evb_place_Cells place_Tops place_Leaves L a0)
theorem ok_place_Cells : SpecOK C_place_Cells 26 sp_place_Cells := by
  have hS := specs_ok (C := C_place_Cells) (l := us_place_Cells) rfl ⟨ok_place_Tops.re rfl rfl rfl, ok_place_Leaves.re rfl rfl rfl, trivial⟩
  refine spec_ok (C := C_place_Cells) (cl := (clD C_place_Cells 0)) (hd := (fun _ s => some s)) envOK (tyOK_of (l := tab) rfl tabT) hS (clD_ok envOK (tyOK_of (l := tab) rfl tabT) hS mixed (inl_ok (l := []) rfl (by kernel_rfl)) _) mixed HdOK.id (by kernel_rfl) [i64] (res1 i64) (de1 (S := S) i64) fun cs r h => ?_
  obtain ⟨a0, rfl, h⟩ := inv1 h
  exact ⟨0, (ev_place_Cells _ a0).trans h⟩
-- lodger/bits.Mask
def bits_Mask_b  (a0 : Int) : Option (Int) := (bif (decide ((IntKind.wrap .u64 a0) < 0)) then none else some (IntKind.wrap .u64 ((shl .u64 1 (IntKind.wrap .u64 a0)) - 1)))
def sp_bits_Mask : Spec S := { args := [i64], R := Int, run := run1 i64 bits_Mask, enc := enc1 (S := S) u64 }
def spb_bits_Mask (F : Int → Option (Int)) : Spec S := { args := [i64], R := Int, run := run1 i64 F, enc := enc1 (S := S) u64 }
def usb_bits_Mask  : List (Nat × Spec S) := []
def us_bits_Mask : List (Nat × Spec S) := []
noncomputable def Cb_bits_Mask  : Ctx S := { P := Tryd.prog, E := E, ty := tyL tab, G := glL gtab, spec := spL (usb_bits_Mask ), inl := inL [] }
noncomputable def C_bits_Mask : Ctx S := Cb_bits_Mask 
theorem evb_bits_Mask  (L : (St S → D (Int)) → Lp S (Int)) (a0 : Int) : (runWF (Cb_bits_Mask ) (clDF (Cb_bits_Mask ) 0) L 28 [u64] (res1 u64) [encV E i64 a0]).opt = bits_Mask_b  a0 := by kernel_rfl
theorem ev_bits_Mask (L : (St S → D (Int)) → Lp S (Int)) (a0 : Int) : (runW C_bits_Mask (clD C_bits_Mask 0) L 28 [u64] (res1 u64) [encV E i64 a0]).opt = bits_Mask a0 := (congrArg D.opt (runWF_eq _ _ L _ _ _ _)).trans (evb_bits_Mask  L a0)
theorem ok_bits_Mask : SpecOK C_bits_Mask 28 sp_bits_Mask := by
  have hS := specs_ok (C := C_bits_Mask) (l := us_bits_Mask) rfl trivial
  refine spec_ok (C := C_bits_Mask) (cl := (clD C_bits_Mask 0)) (hd := (fun _ s => some s)) envOK (tyOK_of (l := tab) rfl tabT) hS (clD_ok envOK (tyOK_of (l := tab) rfl tabT) hS mixed (inl_ok (l := []) rfl (by kernel_rfl)) _) mixed HdOK.id (by kernel_rfl) [u64] (res1 u64) (de1 (S := S) u64) fun cs r h => ?_
  obtain ⟨a0, rfl, h⟩ := inv1 h
  exact ⟨0, (ev_bits_Mask _ a0).trans h⟩
-- lodger/place.Width
def place_Width_b  (a0 : Int) (a1 : Int) : Option (Int) := some (mm false 32 (IntKind.wrap .i64 (a0 - (IntKind.wrap .i64 (a1 * 32)))))
def sp_place_Width : Spec S := { args := [i64, i64], R := Int, run := run2 i64 i64 place_Width, enc := enc1 (S := S) i64 }
def spb_place_Width (F : Int → Int → Option (Int)) : Spec S := { args := [i64, i64], R := Int, run := run2 i64 i64 F, enc := enc1 (S := S) i64 }
def usb_place_Width  : List (Nat × Spec S) := []
def us_place_Width : List (Nat × Spec S) := []
noncomputable def Cb_place_Width  : Ctx S := { P := Tryd.prog, E := E, ty := tyL tab, G := glL gtab, spec := spL (usb_place_Width ), inl := inL [] }
noncomputable def C_place_Width : Ctx S := Cb_place_Width 
theorem evb_place_Width  (L : (St S → D (Int)) → Lp S (Int)) (a0 : Int) (a1 : Int) : (runWF (Cb_place_Width ) (clDF (Cb_place_Width ) 0) L 59 [i64] (res1 i64) [encV E i64 a0, encV E i64 a1]).opt = place_Width_b  a0 a1 := by kernel_rfl
theorem ev_place_Width (L : (St S → D (Int)) → Lp S (Int)) (a0 : Int) (a1 : Int) : (runW C_place_Width (clD C_place_Width 0) L 59 [i64] (res1 i64) [encV E i64 a0, encV E i64 a1]).opt = place_Width a0 a1 := (congrArg D.opt (runWF_eq _ _ L _ _ _ _)).trans (evb_place_Width  L a0 a1)
theorem ok_place_Width : SpecOK C_place_Width 59 sp_place_Width := by
  have hS := specs_ok (C := C_place_Width) (l := us_place_Width) rfl trivial
  refine spec_ok (C := C_place_Width) (cl := (clD C_place_Width 0)) (hd := (fun _ s => some s)) envOK (tyOK_of (l := tab) rfl tabT) hS (clD_ok envOK (tyOK_of (l := tab) rfl tabT) hS mixed (inl_ok (l := []) rfl (by kernel_rfl)) _) mixed HdOK.id (by kernel_rfl) [i64] (res1 i64) (de1 (S := S) i64) fun cs r h => ?_
  obtain ⟨a0, a1, rfl, h⟩ := inv2 h
  exact ⟨0, (ev_place_Width _ a0 a1).trans h⟩
-- lodger/place.Leaf
def place_Leaf_b  (a0 : Int) : Option (Int × Int) := some ((IntKind.wrap .i64 (Int.tdiv a0 32)), (Int.tmod a0 32))
def sp_place_Leaf : Spec S := { args := [i64], R := Int × Int, run := run1 i64 place_Leaf, enc := enc2 (S := S) i64 i64 }
def spb_place_Leaf (F : Int → Option (Int × Int)) : Spec S := { args := [i64], R := Int × Int, run := run1 i64 F, enc := enc2 (S := S) i64 i64 }
def usb_place_Leaf  : List (Nat × Spec S) := []
def us_place_Leaf : List (Nat × Spec S) := []
noncomputable def Cb_place_Leaf  : Ctx S := { P := Tryd.prog, E := E, ty := tyL tab, G := glL gtab, spec := spL (usb_place_Leaf ), inl := inL [] }
noncomputable def C_place_Leaf : Ctx S := Cb_place_Leaf 
theorem evb_place_Leaf  (L : (St S → D (Int × Int)) → Lp S (Int × Int)) (a0 : Int) : (runWF (Cb_place_Leaf ) (clDF (Cb_place_Leaf ) 0) L 60 [i64, i64] (res2 i64 i64) [encV E i64 a0]).opt = place_Leaf_b  a0 := by kernel_rfl
theorem ev_place_Leaf (L : (St S → D (Int × Int)) → Lp S (Int × Int)) (a0 : Int) : (runW C_place_Leaf (clD C_place_Leaf 0) L 60 [i64, i64] (res2 i64 i64) [encV E i64 a0]).opt = place_Leaf a0 := (congrArg D.opt (runWF_eq _ _ L _ _ _ _)).trans (evb_place_Leaf  L a0)
theorem ok_place_Leaf : SpecOK C_place_Leaf 60 sp_place_Leaf := by
  have hS := specs_ok (C := C_place_Leaf) (l := us_place_Leaf) rfl trivial
  refine spec_ok (C := C_place_Leaf) (cl := (clD C_place_Leaf 0)) (hd := (fun _ s => some s)) envOK (tyOK_of (l := tab) rfl tabT) hS (clD_ok envOK (tyOK_of (l := tab) rfl tabT) hS mixed (inl_ok (l := []) rfl (by kernel_rfl)) _) mixed HdOK.id (by kernel_rfl) [i64, i64] (res2 i64 i64) (de2 (S := S) i64 i64) fun cs r h => ?_
  obtain ⟨a0, rfl, h⟩ := inv1 h
  exact ⟨0, (ev_place_Leaf _ a0).trans h⟩
-- lodger/bits.Set
def bits_Set_b  (a0 : Int) (a1 : Int) : Option (Int) := (bif (decide ((IntKind.wrap .u64 a1) < 0)) then none else some (bit_or .u64 a0 (shl .u64 1 (IntKind.wrap .u64 a1))))
def sp_bits_Set : Spec S := { args := [u64, i64], R := Int, run := run2 u64 i64 bits_Set, enc := enc1 (S := S) u64 }
def spb_bits_Set (F : Int → Int → Option (Int)) : Spec S := { args := [u64, i64], R := Int, run := run2 u64 i64 F, enc := enc1 (S := S) u64 }
def usb_bits_Set  : List (Nat × Spec S) := []
def us_bits_Set : List (Nat × Spec S) := []
noncomputable def Cb_bits_Set  : Ctx S := { P := Tryd.prog, E := E, ty := tyL tab, G := glL gtab, spec := spL (usb_bits_Set ), inl := inL [] }
noncomputable def C_bits_Set : Ctx S := Cb_bits_Set 
theorem evb_bits_Set  (L : (St S → D (Int)) → Lp S (Int)) (a0 : Int) (a1 : Int) : (runWF (Cb_bits_Set ) (clDF (Cb_bits_Set ) 0) L 61 [u64] (res1 u64) [encV E u64 a0, encV E i64 a1]).opt = bits_Set_b  a0 a1 := by kernel_rfl
theorem ev_bits_Set (L : (St S → D (Int)) → Lp S (Int)) (a0 : Int) (a1 : Int) : (runW C_bits_Set (clD C_bits_Set 0) L 61 [u64] (res1 u64) [encV E u64 a0, encV E i64 a1]).opt = bits_Set a0 a1 := (congrArg D.opt (runWF_eq _ _ L _ _ _ _)).trans (evb_bits_Set  L a0 a1)
theorem ok_bits_Set : SpecOK C_bits_Set 61 sp_bits_Set := by
  have hS := specs_ok (C := C_bits_Set) (l := us_bits_Set) rfl trivial
  refine spec_ok (C := C_bits_Set) (cl := (clD C_bits_Set 0)) (hd := (fun _ s => some s)) envOK (tyOK_of (l := tab) rfl tabT) hS (clD_ok envOK (tyOK_of (l := tab) rfl tabT) hS mixed (inl_ok (l := []) rfl (by kernel_rfl)) _) mixed HdOK.id (by kernel_rfl) [u64] (res1 u64) (de1 (S := S) u64) fun cs r h => ?_
  obtain ⟨a0, a1, rfl, h⟩ := inv2 h
  exact ⟨0, (ev_bits_Set _ a0 a1).trans h⟩
-- lodger/word.New
def word_New_s0b (g_block_Many : Block → Option (Int)) (g_bits_Mask : Int → Option (Int)) (g_place_Width : Int → Int → Option (Int)) (g_place_Leaf : Int → Option (Int × Int)) (g_bits_Set : Int → Int → Option (Int)) (k0 : Int → Int → (List Int) → Int → Int → Option (Int)) (s1 : Int) (s5 : Int) (s19 : (List Int)) (s20 : Int) (s21 : Int) : Option (Int) := (bif (decide (s21 < s20)) then ((geti s19 s21).bind fun x5 => ((g_place_Leaf x5).bind fun r6 => (bif (r6.1 == s1) then ((g_bits_Set s5 r6.2).bind fun r7 => k0 s1 r7 s19 s20 (IntKind.wrap .i64 (s21 + 1))) else k0 s1 s5 s19 s20 (IntKind.wrap .i64 (s21 + 1))))) else some s5)
def word_New_eb (g_block_Many : Block → Option (Int)) (g_bits_Mask : Int → Option (Int)) (g_place_Width : Int → Int → Option (Int)) (g_place_Leaf : Int → Option (Int × Int)) (g_bits_Set : Int → Int → Option (Int)) (k0 : Int → Int → (List Int) → Int → Int → Option (Int)) (a0 : Conf) (a1 : Int) : Option (Int) := ((g_bits_Mask 32).bind fun r1 => ((g_block_Many a0.block).bind fun r2 => ((g_place_Width r2 a1).bind fun r3 => ((g_bits_Mask r3).bind fun r4 => k0 a1 (bit_andNot .u64 r1 r4) a0.held (List.length a0.held : Int) 0))))
def sp_word_New : Spec S := { args := [(Ty.st 1), i64], R := Int, run := run2 (Ty.st 1) i64 word_New, enc := enc1 (S := S) u64 }
def spb_word_New (F : Conf → Int → Option (Int)) : Spec S := { args := [(Ty.st 1), i64], R := Int, run := run2 (Ty.st 1) i64 F, enc := enc1 (S := S) u64 }
def usb_word_New (g_block_Many : Block → Option (Int)) (g_bits_Mask : Int → Option (Int)) (g_place_Width : Int → Int → Option (Int)) (g_place_Leaf : Int → Option (Int × Int)) (g_bits_Set : Int → Int → Option (Int)) : List (Nat × Spec S) := [(25, spb_block_Many g_block_Many), (28, spb_bits_Mask g_bits_Mask), (59, spb_place_Width g_place_Width), (60, spb_place_Leaf g_place_Leaf), (61, spb_bits_Set g_bits_Set)]
def us_word_New : List (Nat × Spec S) := [(25, sp_block_Many), (28, sp_bits_Mask), (59, sp_place_Width), (60, sp_place_Leaf), (61, sp_bits_Set)]
noncomputable def Cb_word_New (g_block_Many : Block → Option (Int)) (g_bits_Mask : Int → Option (Int)) (g_place_Width : Int → Int → Option (Int)) (g_place_Leaf : Int → Option (Int × Int)) (g_bits_Set : Int → Int → Option (Int)) : Ctx S := { P := Tryd.prog, E := E, ty := tyL tab, G := glL gtab, spec := spL (usb_word_New g_block_Many g_bits_Mask g_place_Width g_place_Leaf g_bits_Set), inl := inL [] }
noncomputable def C_word_New : Ctx S := Cb_word_New block_Many bits_Mask place_Width place_Leaf bits_Set
def hd_word_New : List ((Nat × Nat) × List Hs) := [((2, 3), [.canon 1 [] [1, 5, 19, 20, 21], .plain 1 i64, .plain 5 u64, .plain 19 (Ty.slice i64), .plain 20 i64, .plain 21 i64])]
def h0_word_New (s1 : Int) (s5 : Int) (s19 : (List Int)) (s20 : Int) (s21 : Int) : St S := { tmps := [.undef, .cell i64 s1, .undef, .undef, .undef, .cell u64 s5, .undef, .undef, .undef, .undef, .undef, .undef, .undef, .undef, .undef, .undef, .undef, .undef, .undef, .cell (Ty.slice i64) s19, .cell i64 s20, .cell i64 s21, .undef, .undef, .undef, .undef, .undef, .undef, .undef, .undef, .undef, .undef, .undef, .undef, .undef, .undef, .undef, .undef], mem := [.box [.undef, .undef, .undef, .undef, .undef, .undef, .undef] false] }
theorem rdb0_word_New (g_block_Many : Block → Option (Int)) (g_bits_Mask : Int → Option (Int)) (g_place_Width : Int → Int → Option (Int)) (g_place_Leaf : Int → Option (Int × Int)) (g_bits_Set : Int → Int → Option (Int)) (L : Lp S (Int)) (s1 : Int) (s5 : Int) (s19 : (List Int)) (s20 : Int) (s21 : Int) : (roundWF (Cb_word_New g_block_Many g_bits_Mask g_place_Width g_place_Leaf g_bits_Set) (clDF (Cb_word_New g_block_Many g_bits_Mask g_place_Width g_place_Leaf g_bits_Set) 0) (hdOf (Cb_word_New g_block_Many g_bits_Mask g_place_Width g_place_Leaf g_bits_Set) hd_word_New) 30 0 [u64] (res1 u64) L (h0_word_New s1 s5 s19 s20 s21)).opt = word_New_s0b g_block_Many g_bits_Mask g_place_Width g_place_Leaf g_bits_Set (fun s1 s5 s19 s20 s21 => (L (todoOf (Cb_word_New g_block_Many g_bits_Mask g_place_Width g_place_Leaf g_bits_Set) 30 0) (h0_word_New s1 s5 s19 s20 s21)).opt) s1 s5 s19 s20 s21 := by kernel_rfl
theorem rd0_word_New (L : Lp S (Int)) (s1 : Int) (s5 : Int) (s19 : (List Int)) (s20 : Int) (s21 : Int) : (roundW C_word_New (clD C_word_New 0) (hdOf C_word_New hd_word_New) 30 0 [u64] (res1 u64) L (h0_word_New s1 s5 s19 s20 s21)).opt = word_New_s0 (fun s1 s5 s19 s20 s21 => (L (todoOf C_word_New 30 0) (h0_word_New s1 s5 s19 s20 s21)).opt) s1 s5 s19 s20 s21 := (congrArg D.opt (roundWF_eq _ _ _ _ _ _ _ L _)).trans (rdb0_word_New block_Many bits_Mask place_Width place_Leaf bits_Set L s1 s5 s19 s20 s21)
theorem enb_word_New (g_block_Many : Block → Option (Int)) (g_bits_Mask : Int → Option (Int)) (g_place_Width : Int → Int → Option (Int)) (g_place_Leaf : Int → Option (Int × Int)) (g_bits_Set : Int → Int → Option (Int)) (L : Lp S (Int)) (a0 : Conf) (a1 : Int) : (runWF (Cb_word_New g_block_Many g_bits_Mask g_place_Width g_place_Leaf g_bits_Set) (clDF (Cb_word_New g_block_Many g_bits_Mask g_place_Width g_place_Leaf g_bits_Set) 0) (fun _ => canonL (hdOf (Cb_word_New g_block_Many g_bits_Mask g_place_Width g_place_Leaf g_bits_Set) hd_word_New) L) 30 [u64] (res1 u64) [encV E (Ty.st 1) a0, encV E i64 a1]).opt = word_New_eb g_block_Many g_bits_Mask g_place_Width g_place_Leaf g_bits_Set (fun s1 s5 s19 s20 s21 => (L (todoOf (Cb_word_New g_block_Many g_bits_Mask g_place_Width g_place_Leaf g_bits_Set) 30 0) (h0_word_New s1 s5 s19 s20 s21)).opt) a0 a1 := by kernel_rfl
theorem en_word_New (L : Lp S (Int)) (a0 : Conf) (a1 : Int) : (runW C_word_New (clD C_word_New 0) (fun _ => canonL (hdOf C_word_New hd_word_New) L) 30 [u64] (res1 u64) [encV E (Ty.st 1) a0, encV E i64 a1]).opt = word_New_e (fun s1 s5 s19 s20 s21 => (L (todoOf C_word_New 30 0) (h0_word_New s1 s5 s19 s20 s21)).opt) a0 a1 := (congrArg D.opt (runWF_eq _ _ _ _ _ _ _)).trans (enb_word_New block_Many bits_Mask place_Width place_Leaf bits_Set L a0 a1)
theorem fx_word_New : ∀ n, (∀ (s1 : Int) (s5 : Int) (s19 : (List Int)) (s20 : Int) (s21 : Int), (Lfix C_word_New (clD C_word_New 0) (hdOf C_word_New hd_word_New) (finW C_word_New 30 [u64] (res1 u64)) n (todoOf C_word_New 30 0) (h0_word_New s1 s5 s19 s20 s21)).opt = word_New_l0 n s1 s5 s19 s20 s21)
  | 0 => fun _ _ _ _ _ => rfl
  | n + 1 => by
    have ih := fx_word_New n
    have e0 : (fun s1 s5 s19 s20 s21 => (Lfix C_word_New (clD C_word_New 0) (hdOf C_word_New hd_word_New) (finW C_word_New 30 [u64] (res1 u64)) n (todoOf C_word_New 30 0) (h0_word_New s1 s5 s19 s20 s21)).opt) = word_New_l0 n := funext fun s1 => funext fun s5 => funext fun s19 => funext fun s20 => funext fun s21 => ih s1 s5 s19 s20 s21
    exact fun s1 s5 s19 s20 s21 => (congrArg D.opt (Lfix_round C_word_New (clD C_word_New 0) (hdOf C_word_New hd_word_New) 30 0 [u64] (res1 u64) n _)).trans ((rd0_word_New (Lfix C_word_New (clD C_word_New 0) (hdOf C_word_New hd_word_New) (finW C_word_New 30 [u64] (res1 u64)) n) s1 s5 s19 s20 s21).trans (congrArg (fun x => word_New_s0  x  s1 s5 s19 s20 s21) e0))
theorem ev_word_New (n : Nat) (a0 : Conf) (a1 : Int) : (runF C_word_New (clD C_word_New 0) (hdOf C_word_New hd_word_New) 30 [u64] (res1 u64) n [encV E (Ty.st 1) a0, encV E i64 a1]).opt = word_New_n n a0 a1 := by
  have ih := fx_word_New n
  have e0 : (fun s1 s5 s19 s20 s21 => (Lfix C_word_New (clD C_word_New 0) (hdOf C_word_New hd_word_New) (finW C_word_New 30 [u64] (res1 u64)) n (todoOf C_word_New 30 0) (h0_word_New s1 s5 s19 s20 s21)).opt) = word_New_l0 n := funext fun s1 => funext fun s5 => funext fun s19 => funext fun s20 => funext fun s21 => ih s1 s5 s19 s20 s21
  exact (congrArg D.opt (runF_eq C_word_New (clD C_word_New 0) (hdOf C_word_New hd_word_New) 30 [u64] (res1 u64) n _)).trans ((en_word_New (Lfix C_word_New (clD C_word_New 0) (hdOf C_word_New hd_word_New) (finW C_word_New 30 [u64] (res1 u64)) n) a0 a1).trans (congrArg (fun x => word_New_e  x  a0 a1) e0))
theorem ok_word_New : SpecOK C_word_New 30 sp_word_New := by
  have hS := specs_ok (C := C_word_New) (l := us_word_New) rfl ⟨ok_block_Many.re rfl rfl rfl, ok_bits_Mask.re rfl rfl rfl, ok_place_Width.re rfl rfl rfl, ok_place_Leaf.re rfl rfl rfl, ok_bits_Set.re rfl rfl rfl, trivial⟩
  refine spec_ok (C := C_word_New) (cl := (clD C_word_New 0)) (hd := (hdOf C_word_New hd_word_New)) envOK (tyOK_of (l := tab) rfl tabT) hS (clD_ok envOK (tyOK_of (l := tab) rfl tabT) hS mixed (inl_ok (l := []) rfl (by kernel_rfl)) _) mixed (hdOf_ok envOK hd_word_New) (by kernel_rfl) [u64] (res1 u64) (de1 (S := S) u64) fun cs r h => ?_
  obtain ⟨a0, a1, rfl, h⟩ := inv2 h
  exact ⟨big, (ev_word_New big a0 a1).trans ((def_word_New a0 a1).symm.trans h)⟩
-- lodger/bits.Count
def bits_Count_s0b  (k0 : Int → Int → Int → Int → Option (Int)) (s0 : Int) (s5 : Int) (s7 : Int) (s8 : Int) : Option (Int) := (bif (decide (s8 < s7)) then (bif (decide ((IntKind.wrap .u64 s8) < 0)) then none else k0 s0 (IntKind.wrap .i64 (s5 + (IntKind.wrap .i64 (bit_and .u64 (shr .u64 s0 (IntKind.wrap .u64 s8)) 1)))) s7 (IntKind.wrap .i64 (s8 + 1))) else some s5)
def bits_Count_eb  (k0 : Int → Int → Int → Int → Option (Int)) (a0 : Int) (a1 : Int) : Option (Int) := k0 a0 0 a1 0
def sp_bits_Count : Spec S := { args := [u64, i64], R := Int, run := run2 u64 i64 bits_Count, enc := enc1 (S := S) i64 }
def spb_bits_Count (F : Int → Int → Option (Int)) : Spec S := { args := [u64, i64], R := Int, run := run2 u64 i64 F, enc := enc1 (S := S) i64 }
def usb_bits_Count  : List (Nat × Spec S) := []
def us_bits_Count : List (Nat × Spec S) := []
noncomputable def Cb_bits_Count  : Ctx S := { P := Tryd.prog, E := E, ty := tyL tab, G := glL gtab, spec := spL (usb_bits_Count ), inl := inL [] }
noncomputable def C_bits_Count : Ctx S := Cb_bits_Count 
def hd_bits_Count : List ((Nat × Nat) × List Hs) := [((2, 3), [.canon 0 [] [0, 5, 7, 8], .plain 0 u64, .plain 5 i64, .plain 7 i64, .plain 8 i64])]
def h0_bits_Count (s0 : Int) (s5 : Int) (s7 : Int) (s8 : Int) : St S := { tmps := [.cell u64 s0, .undef, .undef, .undef, .undef, .cell i64 s5, .undef, .cell i64 s7, .cell i64 s8, .undef, .undef, .undef, .undef, .undef, .undef, .undef, .undef, .undef, .undef, .undef, .undef], mem := [] }
theorem rdb0_bits_Count  (L : Lp S (Int)) (s0 : Int) (s5 : Int) (s7 : Int) (s8 : Int) : (roundWF (Cb_bits_Count ) (clDF (Cb_bits_Count ) 0) (hdOf (Cb_bits_Count ) hd_bits_Count) 62 0 [i64] (res1 i64) L (h0_bits_Count s0 s5 s7 s8)).opt = bits_Count_s0b  (fun s0 s5 s7 s8 => (L (todoOf (Cb_bits_Count ) 62 0) (h0_bits_Count s0 s5 s7 s8)).opt) s0 s5 s7 s8 := by kernel_rfl
theorem rd0_bits_Count (L : Lp S (Int)) (s0 : Int) (s5 : Int) (s7 : Int) (s8 : Int) : (roundW C_bits_Count (clD C_bits_Count 0) (hdOf C_bits_Count hd_bits_Count) 62 0 [i64] (res1 i64) L (h0_bits_Count s0 s5 s7 s8)).opt = bits_Count_s0 (fun s0 s5 s7 s8 => (L (todoOf C_bits_Count 62 0) (h0_bits_Count s0 s5 s7 s8)).opt) s0 s5 s7 s8 := (congrArg D.opt (roundWF_eq _ _ _ _ _ _ _ L _)).trans (rdb0_bits_Count  L s0 s5 s7 s8)
theorem enb_bits_Count  (L : Lp S (Int)) (a0 : Int) (a1 : Int) : (runWF (Cb_bits_Count ) (clDF (Cb_bits_Count ) 0) (fun _ => canonL (hdOf (Cb_bits_Count ) hd_bits_Count) L) 62 [i64] (res1 i64) [encV E u64 a0, encV E i64 a1]).opt = bits_Count_eb  (fun s0 s5 s7 s8 => (L (todoOf (Cb_bits_Count ) 62 0) (h0_bits_Count s0 s5 s7 s8)).opt) a0 a1 := by kernel_rfl
theorem en_bits_Count (L : Lp S (Int)) (a0 : Int) (a1 : Int) : (runW C_bits_Count (clD C_bits_Count 0) (fun _ => canonL (hdOf C_bits_Count hd_bits_Count) L) 62 [i64] (res1 i64) [encV E u64 a0, encV E i64 a1]).opt = bits_Count_e (fun s0 s5 s7 s8 => (L (todoOf C_bits_Count 62 0) (h0_bits_Count s0 s5 s7 s8)).opt) a0 a1 := (congrArg D.opt (runWF_eq _ _ _ _ _ _ _)).trans (enb_bits_Count  L a0 a1)
theorem fx_bits_Count : ∀ n, (∀ (s0 : Int) (s5 : Int) (s7 : Int) (s8 : Int), (Lfix C_bits_Count (clD C_bits_Count 0) (hdOf C_bits_Count hd_bits_Count) (finW C_bits_Count 62 [i64] (res1 i64)) n (todoOf C_bits_Count 62 0) (h0_bits_Count s0 s5 s7 s8)).opt = bits_Count_l0 n s0 s5 s7 s8)
  | 0 => fun _ _ _ _ => rfl
  | n + 1 => by
    have ih := fx_bits_Count n
    have e0 : (fun s0 s5 s7 s8 => (Lfix C_bits_Count (clD C_bits_Count 0) (hdOf C_bits_Count hd_bits_Count) (finW C_bits_Count 62 [i64] (res1 i64)) n (todoOf C_bits_Count 62 0) (h0_bits_Count s0 s5 s7 s8)).opt) = bits_Count_l0 n := funext fun s0 => funext fun s5 => funext fun s7 => funext fun s8 => ih s0 s5 s7 s8
    exact fun s0 s5 s7 s8 => (congrArg D.opt (Lfix_round C_bits_Count (clD C_bits_Count 0) (hdOf C_bits_Count hd_bits_Count) 62 0 [i64] (res1 i64) n _)).trans ((rd0_bits_Count (Lfix C_bits_Count (clD C_bits_Count 0) (hdOf C_bits_Count hd_bits_Count) (finW C_bits_Count 62 [i64] (res1 i64)) n) s0 s5 s7 s8).trans (congrArg (fun x => bits_Count_s0  x  s0 s5 s7 s8) e0))
theorem ev_bits_Count (n : Nat) (a0 : Int) (a1 : Int) : (runF C_bits_Count (clD C_bits_Count 0) (hdOf C_bits_Count hd_bits_Count) 62 [i64] (res1 i64) n [encV E u64 a0, encV E i64 a1]).opt = bits_Count_n n a0 a1 := by
  have ih := fx_bits_Count n
  have e0 : (fun s0 s5 s7 s8 => (Lfix C_bits_Count (clD C_bits_Count 0) (hdOf C_bits_Count hd_bits_Count) (finW C_bits_Count 62 [i64] (res1 i64)) n (todoOf C_bits_Count 62 0) (h0_bits_Count s0 s5 s7 s8)).opt) = bits_Count_l0 n := funext fun s0 => funext fun s5 => funext fun s7 => funext fun s8 => ih s0 s5 s7 s8
  exact (congrArg D.opt (runF_eq C_bits_Count (clD C_bits_Count 0) (hdOf C_bits_Count hd_bits_Count) 62 [i64] (res1 i64) n _)).trans ((en_bits_Count (Lfix C_bits_Count (clD C_bits_Count 0) (hdOf C_bits_Count hd_bits_Count) (finW C_bits_Count 62 [i64] (res1 i64)) n) a0 a1).trans (congrArg (fun x => bits_Count_e  x  a0 a1) e0))
theorem ok_bits_Count : SpecOK C_bits_Count 62 sp_bits_Count := by
  have hS := specs_ok (C := C_bits_Count) (l := us_bits_Count) rfl trivial
  refine spec_ok (C := C_bits_Count) (cl := (clD C_bits_Count 0)) (hd := (hdOf C_bits_Count hd_bits_Count)) envOK (tyOK_of (l := tab) rfl tabT) hS (clD_ok envOK (tyOK_of (l := tab) rfl tabT) hS mixed (inl_ok (l := []) rfl (by kernel_rfl)) _) mixed (hdOf_ok envOK hd_bits_Count) (by kernel_rfl) [i64] (res1 i64) (de1 (S := S) i64) fun cs r h => ?_
  obtain ⟨a0, a1, rfl, h⟩ := inv2 h
  exact ⟨big, (ev_bits_Count big a0 a1).trans ((def_bits_Count a0 a1).symm.trans h)⟩
-- lodger/word.Full
def word_Full_b (g_bits_Count : Int → Int → Option (Int)) (a0 : Int) : Option (Bool) := ((g_bits_Count a0 32).bind fun r1 => some (r1 == 32))
def sp_word_Full : Spec S := { args := [u64], R := Bool, run := run1 u64 word_Full, enc := enc1 (S := S) Ty.bool }
def spb_word_Full (F : Int → Option (Bool)) : Spec S := { args := [u64], R := Bool, run := run1 u64 F, enc := enc1 (S := S) Ty.bool }
def usb_word_Full (g_bits_Count : Int → Int → Option (Int)) : List (Nat × Spec S) := [(62, spb_bits_Count g_bits_Count)]
def us_word_Full : List (Nat × Spec S) := [(62, sp_bits_Count)]
noncomputable def Cb_word_Full (g_bits_Count : Int → Int → Option (Int)) : Ctx S := { P := Tryd.prog, E := E, ty := tyL tab, G := glL gtab, spec := spL (usb_word_Full g_bits_Count), inl := inL [] }
noncomputable def C_word_Full : Ctx S := Cb_word_Full bits_Count
theorem evb_word_Full (g_bits_Count : Int → Int → Option (Int)) (L : (St S → D (Bool)) → Lp S (Bool)) (a0 : Int) : (runWF (Cb_word_Full g_bits_Count) (clDF (Cb_word_Full g_bits_Count) 0) L 31 [Ty.bool] (res1 Ty.bool) [encV E u64 a0]).opt = word_Full_b g_bits_Count a0 := by kernel_rfl
theorem ev_word_Full (L : (St S → D (Bool)) → Lp S (Bool)) (a0 : Int) : (runW C_word_Full (clD C_word_Full 0) L 31 [Ty.bool] (res1 Ty.bool) [encV E u64 a0]).opt = word_Full a0 := (congrArg D.opt (runWF_eq _ _ L _ _ _ _)).trans (evb_word_Full bits_Count L a0)
theorem ok_word_Full : SpecOK C_word_Full 31 sp_word_Full := by
  have hS := specs_ok (C := C_word_Full) (l := us_word_Full) rfl ⟨ok_bits_Count.re rfl rfl rfl, trivial⟩
  refine spec_ok (C := C_word_Full) (cl := (clD C_word_Full 0)) (hd := (fun _ s => some s)) envOK (tyOK_of (l := tab) rfl tabT) hS (clD_ok envOK (tyOK_of (l := tab) rfl tabT) hS mixed (inl_ok (l := []) rfl (by kernel_rfl)) _) mixed HdOK.id (by kernel_rfl) [Ty.bool] (res1 Ty.bool) (de1 (S := S) Ty.bool) fun cs r h => ?_
  obtain ⟨a0, rfl, h⟩ := inv1 h
  exact ⟨0, (ev_word_Full _ a0).trans h⟩
-- lodger/place.Top
def place_Top_b (g_place_Leaves : Int → Option (Int)) (a0 : Int) (a1 : Int) : Option (Int × Int) := ((g_place_Leaves a0).bind fun r1 => some ((IntKind.wrap .i64 (r1 + (IntKind.wrap .i64 (Int.tdiv a1 64)))), (Int.tmod a1 64)))
def sp_place_Top : Spec S := { args := [i64, i64], R := Int × Int, run := run2 i64 i64 place_Top, enc := enc2 (S := S) i64 i64 }
def spb_place_Top (F : Int → Int → Option (Int × Int)) : Spec S := { args := [i64, i64], R := Int × Int, run := run2 i64 i64 F, enc := enc2 (S := S) i64 i64 }
def usb_place_Top (g_place_Leaves : Int → Option (Int)) : List (Nat × Spec S) := [(29, spb_place_Leaves g_place_Leaves)]
def us_place_Top : List (Nat × Spec S) := [(29, sp_place_Leaves)]
noncomputable def Cb_place_Top (g_place_Leaves : Int → Option (Int)) : Ctx S := { P := Tryd.prog, E := E, ty := tyL tab, G := glL gtab, spec := spL (usb_place_Top g_place_Leaves), inl := inL [] }
noncomputable def C_place_Top : Ctx S := Cb_place_Top place_Leaves
theorem evb_place_Top (g_place_Leaves : Int → Option (Int)) (L : (St S → D (Int × Int)) → Lp S (Int × Int)) (a0 : Int) (a1 : Int) : (runWF (Cb_place_Top g_place_Leaves) (clDF (Cb_place_Top g_place_Leaves) 0) L 32 [i64, i64] (res2 i64 i64) [encV E i64 a0, encV E i64 a1]).opt = place_Top_b g_place_Leaves a0 a1 := by kernel_rfl
theorem ev_place_Top (L : (St S → D (Int × Int)) → Lp S (Int × Int)) (a0 : Int) (a1 : Int) : (runW C_place_Top (clD C_place_Top 0) L 32 [i64, i64] (res2 i64 i64) [encV E i64 a0, encV E i64 a1]).opt = place_Top a0 a1 := (congrArg D.opt (runWF_eq _ _ L _ _ _ _)).trans (evb_place_Top place_Leaves L a0 a1)
theorem ok_place_Top : SpecOK C_place_Top 32 sp_place_Top := by
  have hS := specs_ok (C := C_place_Top) (l := us_place_Top) rfl ⟨ok_place_Leaves.re rfl rfl rfl, trivial⟩
  refine spec_ok (C := C_place_Top) (cl := (clD C_place_Top 0)) (hd := (fun _ s => some s)) envOK (tyOK_of (l := tab) rfl tabT) hS (clD_ok envOK (tyOK_of (l := tab) rfl tabT) hS mixed (inl_ok (l := []) rfl (by kernel_rfl)) _) mixed HdOK.id (by kernel_rfl) [i64, i64] (res2 i64 i64) (de2 (S := S) i64 i64) fun cs r h => ?_
  obtain ⟨a0, a1, rfl, h⟩ := inv2 h
  exact ⟨0, (ev_place_Top _ a0 a1).trans h⟩
-- lodger/place.Root
def place_Root_b (g_place_Cells : Int → Option (Int)) (a0 : Int) (a1 : Int) : Option (Int × Int) := ((g_place_Cells a0).bind fun r1 => some ((IntKind.wrap .i64 (r1 - 1)), (IntKind.wrap .i64 (Int.tdiv a1 64))))
def sp_place_Root : Spec S := { args := [i64, i64], R := Int × Int, run := run2 i64 i64 place_Root, enc := enc2 (S := S) i64 i64 }
def spb_place_Root (F : Int → Int → Option (Int × Int)) : Spec S := { args := [i64, i64], R := Int × Int, run := run2 i64 i64 F, enc := enc2 (S := S) i64 i64 }
def usb_place_Root (g_place_Cells : Int → Option (Int)) : List (Nat × Spec S) := [(26, spb_place_Cells g_place_Cells)]
def us_place_Root : List (Nat × Spec S) := [(26, sp_place_Cells)]
noncomputable def Cb_place_Root (g_place_Cells : Int → Option (Int)) : Ctx S := { P := Tryd.prog, E := E, ty := tyL tab, G := glL gtab, spec := spL (usb_place_Root g_place_Cells), inl := inL [] }
noncomputable def C_place_Root : Ctx S := Cb_place_Root place_Cells
theorem evb_place_Root (g_place_Cells : Int → Option (Int)) (L : (St S → D (Int × Int)) → Lp S (Int × Int)) (a0 : Int) (a1 : Int) : (runWF (Cb_place_Root g_place_Cells) (clDF (Cb_place_Root g_place_Cells) 0) L 33 [i64, i64] (res2 i64 i64) [encV E i64 a0, encV E i64 a1]).opt = place_Root_b g_place_Cells a0 a1 := by kernel_rfl
theorem ev_place_Root (L : (St S → D (Int × Int)) → Lp S (Int × Int)) (a0 : Int) (a1 : Int) : (runW C_place_Root (clD C_place_Root 0) L 33 [i64, i64] (res2 i64 i64) [encV E i64 a0, encV E i64 a1]).opt = place_Root a0 a1 := (congrArg D.opt (runWF_eq _ _ L _ _ _ _)).trans (evb_place_Root place_Cells L a0 a1)
theorem ok_place_Root : SpecOK C_place_Root 33 sp_place_Root := by
  have hS := specs_ok (C := C_place_Root) (l := us_place_Root) rfl ⟨ok_place_Cells.re rfl rfl rfl, trivial⟩
  refine spec_ok (C := C_place_Root) (cl := (clD C_place_Root 0)) (hd := (fun _ s => some s)) envOK (tyOK_of (l := tab) rfl tabT) hS (clD_ok envOK (tyOK_of (l := tab) rfl tabT) hS mixed (inl_ok (l := []) rfl (by kernel_rfl)) _) mixed HdOK.id (by kernel_rfl) [i64, i64] (res2 i64 i64) (de2 (S := S) i64 i64) fun cs r h => ?_
  obtain ⟨a0, a1, rfl, h⟩ := inv2 h
  exact ⟨0, (ev_place_Root _ a0 a1).trans h⟩
-- lodger/bits.Clear
def bits_Clear_b  (a0 : Int) (a1 : Int) : Option (Int) := (bif (decide ((IntKind.wrap .u64 a1) < 0)) then none else some (bit_andNot .u64 a0 (shl .u64 1 (IntKind.wrap .u64 a1))))
def sp_bits_Clear : Spec S := { args := [u64, i64], R := Int, run := run2 u64 i64 bits_Clear, enc := enc1 (S := S) u64 }
def spb_bits_Clear (F : Int → Int → Option (Int)) : Spec S := { args := [u64, i64], R := Int, run := run2 u64 i64 F, enc := enc1 (S := S) u64 }
def usb_bits_Clear  : List (Nat × Spec S) := []
def us_bits_Clear : List (Nat × Spec S) := []
noncomputable def Cb_bits_Clear  : Ctx S := { P := Tryd.prog, E := E, ty := tyL tab, G := glL gtab, spec := spL (usb_bits_Clear ), inl := inL [] }
noncomputable def C_bits_Clear : Ctx S := Cb_bits_Clear 
theorem evb_bits_Clear  (L : (St S → D (Int)) → Lp S (Int)) (a0 : Int) (a1 : Int) : (runWF (Cb_bits_Clear ) (clDF (Cb_bits_Clear ) 0) L 34 [u64] (res1 u64) [encV E u64 a0, encV E i64 a1]).opt = bits_Clear_b  a0 a1 := by kernel_rfl
theorem ev_bits_Clear (L : (St S → D (Int)) → Lp S (Int)) (a0 : Int) (a1 : Int) : (runW C_bits_Clear (clD C_bits_Clear 0) L 34 [u64] (res1 u64) [encV E u64 a0, encV E i64 a1]).opt = bits_Clear a0 a1 := (congrArg D.opt (runWF_eq _ _ L _ _ _ _)).trans (evb_bits_Clear  L a0 a1)
theorem ok_bits_Clear : SpecOK C_bits_Clear 34 sp_bits_Clear := by
  have hS := specs_ok (C := C_bits_Clear) (l := us_bits_Clear) rfl trivial
  refine spec_ok (C := C_bits_Clear) (cl := (clD C_bits_Clear 0)) (hd := (fun _ s => some s)) envOK (tyOK_of (l := tab) rfl tabT) hS (clD_ok envOK (tyOK_of (l := tab) rfl tabT) hS mixed (inl_ok (l := []) rfl (by kernel_rfl)) _) mixed HdOK.id (by kernel_rfl) [u64] (res1 u64) (de1 (S := S) u64) fun cs r h => ?_
  obtain ⟨a0, a1, rfl, h⟩ := inv2 h
  exact ⟨0, (ev_bits_Clear _ a0 a1).trans h⟩
-- lodger/word.Cells
def word_Cells_s0b (g_block_Many : Block → Option (Int)) (g_place_Cells : Int → Option (Int)) (g_place_Tops : Int → Option (Int)) (g_bits_Mask : Int → Option (Int)) (g_place_Leaves : Int → Option (Int)) (g_word_New : Conf → Int → Option (Int)) (g_word_Full : Int → Option (Bool)) (g_place_Top : Int → Int → Option (Int × Int)) (g_place_Root : Int → Int → Option (Int × Int)) (g_bits_Clear : Int → Int → Option (Int)) (k0 : Int → Int → Int → Conf → (List Int) → Option ((List Int))) (k1 : Int → Int → Int → Int → Conf → (List Int) → Option ((List Int))) (s3 : Int) (s19 : Int) (s20 : Int) (m0 : Conf) (m1 : (List Int)) : Option ((List Int)) := (bif (decide (s20 < s19)) then ((g_place_Leaves s3).bind fun r4 => ((g_bits_Mask 64).bind fun r5 => (bif (decide (0 ≤ (IntKind.wrap .i64 (r4 + s20)) ∧ (IntKind.wrap .i64 (r4 + s20)) < (m1.length : Int))) then ((m1[(IntKind.wrap .i64 (r4 + s20)).toNat]?).bind fun x6 => k0 s3 s19 (IntKind.wrap .i64 (s20 + 1)) m0 (m1.set ((IntKind.wrap .i64 (r4 + s20)).toNat) r5)) else none))) else ((g_place_Cells s3).bind fun r7 => ((g_bits_Mask 64).bind fun r8 => (bif (decide (0 ≤ (IntKind.wrap .i64 (r7 - 1)) ∧ (IntKind.wrap .i64 (r7 - 1)) < (m1.length : Int))) then ((m1[(IntKind.wrap .i64 (r7 - 1)).toNat]?).bind fun x9 => ((g_place_Leaves s3).bind fun r10 => k1 s3 (IntKind.wrap .i64 (r7 - 1)) r10 0 m0 (m1.set ((IntKind.wrap .i64 (r7 - 1)).toNat) r8))) else none))))
def word_Cells_s1b (g_block_Many : Block → Option (Int)) (g_place_Cells : Int → Option (Int)) (g_place_Tops : Int → Option (Int)) (g_bits_Mask : Int → Option (Int)) (g_place_Leaves : Int → Option (Int)) (g_word_New : Conf → Int → Option (Int)) (g_word_Full : Int → Option (Bool)) (g_place_Top : Int → Int → Option (Int × Int)) (g_place_Root : Int → Int → Option (Int × Int)) (g_bits_Clear : Int → Int → Option (Int)) (k0 : Int → Int → Int → Conf → (List Int) → Option ((List Int))) (k1 : Int → Int → Int → Int → Conf → (List Int) → Option ((List Int))) (s3 : Int) (s6 : Int) (s39 : Int) (s40 : Int) (m0 : Conf) (m1 : (List Int)) : Option ((List Int)) := (bif (decide (s40 < s39)) then ((g_word_New m0 s40).bind fun r11 => (bif (decide (0 ≤ s40 ∧ s40 < (m1.length : Int))) then ((m1[s40.toNat]?).bind fun x12 => (bif (decide (0 ≤ s40 ∧ s40 < ((m1.set s40.toNat r11).length : Int))) then (((m1.set s40.toNat r11)[s40.toNat]?).bind fun x13 => ((g_word_Full x13).bind fun r14 => (bif r14 then k1 s3 s6 s39 (IntKind.wrap .i64 (s40 + 1)) m0 (m1.set s40.toNat r11) else ((g_place_Top s3 s40).bind fun r15 => ((g_place_Root s3 s40).bind fun r16 => (bif (decide (0 ≤ r15.1 ∧ r15.1 < ((m1.set s40.toNat r11).length : Int))) then (((m1.set s40.toNat r11)[r15.1.toNat]?).bind fun x17 => ((g_bits_Clear x17 r15.2).bind fun r18 => (bif (decide (0 ≤ s6 ∧ s6 < ((m1.set s40.toNat r11).length : Int))) then (((m1.set s40.toNat r11)[s6.toNat]?).bind fun x19 => ((g_bits_Clear x19 r16.2).bind fun r20 => (bif (decide (0 ≤ r15.1 ∧ r15.1 < ((m1.set s40.toNat r11).length : Int))) then (((m1.set s40.toNat r11)[r15.1.toNat]?).bind fun x21 => (bif (decide (0 ≤ s6 ∧ s6 < (((m1.set s40.toNat r11).set r15.1.toNat r18).length : Int))) then ((((m1.set s40.toNat r11).set r15.1.toNat r18)[s6.toNat]?).bind fun x22 => k1 s3 s6 s39 (IntKind.wrap .i64 (s40 + 1)) m0 (((m1.set s40.toNat r11).set r15.1.toNat r18).set s6.toNat r20)) else none)) else none))) else none))) else none)))))) else none)) else none)) else some m1)
def word_Cells_eb (g_block_Many : Block → Option (Int)) (g_place_Cells : Int → Option (Int)) (g_place_Tops : Int → Option (Int)) (g_bits_Mask : Int → Option (Int)) (g_place_Leaves : Int → Option (Int)) (g_word_New : Conf → Int → Option (Int)) (g_word_Full : Int → Option (Bool)) (g_place_Top : Int → Int → Option (Int × Int)) (g_place_Root : Int → Int → Option (Int × Int)) (g_bits_Clear : Int → Int → Option (Int)) (k0 : Int → Int → Int → Conf → (List Int) → Option ((List Int))) (k1 : Int → Int → Int → Int → Conf → (List Int) → Option ((List Int))) (a0 : Conf) : Option ((List Int)) := ((g_block_Many a0.block).bind fun r1 => ((g_place_Cells r1).bind fun r2 => (bif (ieq r2 r2 && okLen r2) then ((g_place_Tops r1).bind fun r3 => k0 r1 r3 0 a0 (List.replicate (Int.toNat r2) (0 : Int))) else none)))
def sp_word_Cells : Spec S := { args := [(Ty.st 1)], R := (List Int), run := run1 (Ty.st 1) word_Cells, enc := enc1 (S := S) (Ty.slice u64) }
def spb_word_Cells (F : Conf → Option ((List Int))) : Spec S := { args := [(Ty.st 1)], R := (List Int), run := run1 (Ty.st 1) F, enc := enc1 (S := S) (Ty.slice u64) }
def usb_word_Cells (g_block_Many : Block → Option (Int)) (g_place_Cells : Int → Option (Int)) (g_place_Tops : Int → Option (Int)) (g_bits_Mask : Int → Option (Int)) (g_place_Leaves : Int → Option (Int)) (g_word_New : Conf → Int → Option (Int)) (g_word_Full : Int → Option (Bool)) (g_place_Top : Int → Int → Option (Int × Int)) (g_place_Root : Int → Int → Option (Int × Int)) (g_bits_Clear : Int → Int → Option (Int)) : List (Nat × Spec S) := [(25, spb_block_Many g_block_Many), (26, spb_place_Cells g_place_Cells), (27, spb_place_Tops g_place_Tops), (28, spb_bits_Mask g_bits_Mask), (29, spb_place_Leaves g_place_Leaves), (30, spb_word_New g_word_New), (31, spb_word_Full g_word_Full), (32, spb_place_Top g_place_Top), (33, spb_place_Root g_place_Root), (34, spb_bits_Clear g_bits_Clear)]
def us_word_Cells : List (Nat × Spec S) := [(25, sp_block_Many), (26, sp_place_Cells), (27, sp_place_Tops), (28, sp_bits_Mask), (29, sp_place_Leaves), (30, sp_word_New), (31, sp_word_Full), (32, sp_place_Top), (33, sp_place_Root), (34, sp_bits_Clear)]
noncomputable def Cb_word_Cells (g_block_Many : Block → Option (Int)) (g_place_Cells : Int → Option (Int)) (g_place_Tops : Int → Option (Int)) (g_bits_Mask : Int → Option (Int)) (g_place_Leaves : Int → Option (Int)) (g_word_New : Conf → Int → Option (Int)) (g_word_Full : Int → Option (Bool)) (g_place_Top : Int → Int → Option (Int × Int)) (g_place_Root : Int → Int → Option (Int × Int)) (g_bits_Clear : Int → Int → Option (Int)) : Ctx S := { P := Tryd.prog, E := E, ty := tyL tab, G := glL gtab, spec := spL (usb_word_Cells g_block_Many g_place_Cells g_place_Tops g_bits_Mask g_place_Leaves g_word_New g_word_Full g_place_Top g_place_Root g_bits_Clear), inl := inL [] }
noncomputable def C_word_Cells : Ctx S := Cb_word_Cells block_Many place_Cells place_Tops bits_Mask place_Leaves word_New word_Full place_Top place_Root bits_Clear
def hd_word_Cells : List ((Nat × Nat) × List Hs) := [((2, 4), [.canon 2 [0, 1] [1, 3, 4, 19, 20], .plain 3 i64, .plain 19 i64, .plain 20 i64, .plainB 0 0 (Ty.st 1)]), ((2, 11), [.canon 2 [0, 1] [1, 3, 4, 6, 39, 40], .plain 3 i64, .plain 6 i64, .plain 39 i64, .plain 40 i64, .plainB 0 0 (Ty.st 1)])]
def h0_word_Cells (s3 : Int) (s19 : Int) (s20 : Int) (m0 : Conf) (m1 : (List Int)) : St S := { tmps := [.undef, .ptr 0 0, .undef, .cell i64 s3, .own 1 0, .undef, .undef, .undef, .undef, .undef, .undef, .undef, .undef, .undef, .undef, .undef, .undef, .undef, .undef, .cell i64 s19, .cell i64 s20, .undef, .undef, .undef, .undef, .undef, .undef, .undef, .undef, .undef, .undef, .undef, .undef, .undef, .undef, .undef, .undef, .undef, .undef, .undef, .undef, .undef, .undef, .undef, .undef, .undef, .undef, .undef, .undef, .undef, .undef, .undef, .undef, .undef, .undef, .undef, .undef, .undef, .undef, .undef, .undef, .undef, .undef, .undef, .undef, .undef, .undef, .undef, .undef, .undef, .undef, .undef, .undef, .undef, .undef, .undef, .undef, .undef, .undef, .undef, .undef, .undef, .undef, .undef, .undef, .undef], mem := [.box [.cell u32 m0.block.base, .cell i64 m0.block.pre, .cell (Ty.slice i64) m0.held, .cell i64 m0.shards, .cell i64 m0.workers, .cell i64 m0.queue, .cell i64 m0.tries] false, .arr 41 u64 m1 0 false] }
def h1_word_Cells (s3 : Int) (s6 : Int) (s39 : Int) (s40 : Int) (m0 : Conf) (m1 : (List Int)) : St S := { tmps := [.undef, .ptr 0 0, .undef, .cell i64 s3, .own 1 0, .undef, .cell i64 s6, .undef, .undef, .undef, .undef, .undef, .undef, .undef, .undef, .undef, .undef, .undef, .undef, .undef, .undef, .undef, .undef, .undef, .undef, .undef, .undef, .undef, .undef, .undef, .undef, .undef, .undef, .undef, .undef, .undef, .undef, .undef, .undef, .cell i64 s39, .cell i64 s40, .undef, .undef, .undef, .undef, .undef, .undef, .undef, .undef, .undef, .undef, .undef, .undef, .undef, .undef, .undef, .undef, .undef, .undef, .undef, .undef, .undef, .undef, .undef, .undef, .undef, .undef, .undef, .undef, .undef, .undef, .undef, .undef, .undef, .undef, .undef, .undef, .undef, .undef, .undef, .undef, .undef, .undef, .undef, .undef, .undef], mem := [.box [.cell u32 m0.block.base, .cell i64 m0.block.pre, .cell (Ty.slice i64) m0.held, .cell i64 m0.shards, .cell i64 m0.workers, .cell i64 m0.queue, .cell i64 m0.tries] false, .arr 41 u64 m1 0 false] }
theorem rdb0_word_Cells (g_block_Many : Block → Option (Int)) (g_place_Cells : Int → Option (Int)) (g_place_Tops : Int → Option (Int)) (g_bits_Mask : Int → Option (Int)) (g_place_Leaves : Int → Option (Int)) (g_word_New : Conf → Int → Option (Int)) (g_word_Full : Int → Option (Bool)) (g_place_Top : Int → Int → Option (Int × Int)) (g_place_Root : Int → Int → Option (Int × Int)) (g_bits_Clear : Int → Int → Option (Int)) (L : Lp S ((List Int))) (s3 : Int) (s19 : Int) (s20 : Int) (m0 : Conf) (m1 : (List Int)) : (roundWF (Cb_word_Cells g_block_Many g_place_Cells g_place_Tops g_bits_Mask g_place_Leaves g_word_New g_word_Full g_place_Top g_place_Root g_bits_Clear) (clDF (Cb_word_Cells g_block_Many g_place_Cells g_place_Tops g_bits_Mask g_place_Leaves g_word_New g_word_Full g_place_Top g_place_Root g_bits_Clear) 0) (hdOf (Cb_word_Cells g_block_Many g_place_Cells g_place_Tops g_bits_Mask g_place_Leaves g_word_New g_word_Full g_place_Top g_place_Root g_bits_Clear) hd_word_Cells) 10 0 [(Ty.slice u64)] (res1 (Ty.slice u64)) L (h0_word_Cells s3 s19 s20 m0 m1)).opt = word_Cells_s0b g_block_Many g_place_Cells g_place_Tops g_bits_Mask g_place_Leaves g_word_New g_word_Full g_place_Top g_place_Root g_bits_Clear (fun s3 s19 s20 m0 m1 => (L (todoOf (Cb_word_Cells g_block_Many g_place_Cells g_place_Tops g_bits_Mask g_place_Leaves g_word_New g_word_Full g_place_Top g_place_Root g_bits_Clear) 10 0) (h0_word_Cells s3 s19 s20 m0 m1)).opt) (fun s3 s6 s39 s40 m0 m1 => (L (todoOf (Cb_word_Cells g_block_Many g_place_Cells g_place_Tops g_bits_Mask g_place_Leaves g_word_New g_word_Full g_place_Top g_place_Root g_bits_Clear) 10 1) (h1_word_Cells s3 s6 s39 s40 m0 m1)).opt) s3 s19 s20 m0 m1 := by kernel_rfl
theorem rd0_word_Cells (L : Lp S ((List Int))) (s3 : Int) (s19 : Int) (s20 : Int) (m0 : Conf) (m1 : (List Int)) : (roundW C_word_Cells (clD C_word_Cells 0) (hdOf C_word_Cells hd_word_Cells) 10 0 [(Ty.slice u64)] (res1 (Ty.slice u64)) L (h0_word_Cells s3 s19 s20 m0 m1)).opt = word_Cells_s0 (fun s3 s19 s20 m0 m1 => (L (todoOf C_word_Cells 10 0) (h0_word_Cells s3 s19 s20 m0 m1)).opt) (fun s3 s6 s39 s40 m0 m1 => (L (todoOf C_word_Cells 10 1) (h1_word_Cells s3 s6 s39 s40 m0 m1)).opt) s3 s19 s20 m0 m1 := (congrArg D.opt (roundWF_eq _ _ _ _ _ _ _ L _)).trans (rdb0_word_Cells block_Many place_Cells place_Tops bits_Mask place_Leaves word_New word_Full place_Top place_Root bits_Clear L s3 s19 s20 m0 m1)
theorem rdb1_word_Cells (g_block_Many : Block → Option (Int)) (g_place_Cells : Int → Option (Int)) (g_place_Tops : Int → Option (Int)) (g_bits_Mask : Int → Option (Int)) (g_place_Leaves : Int → Option (Int)) (g_word_New : Conf → Int → Option (Int)) (g_word_Full : Int → Option (Bool)) (g_place_Top : Int → Int → Option (Int × Int)) (g_place_Root : Int → Int → Option (Int × Int)) (g_bits_Clear : Int → Int → Option (Int)) (L : Lp S ((List Int))) (s3 : Int) (s6 : Int) (s39 : Int) (s40 : Int) (m0 : Conf) (m1 : (List Int)) : (roundWF (Cb_word_Cells g_block_Many g_place_Cells g_place_Tops g_bits_Mask g_place_Leaves g_word_New g_word_Full g_place_Top g_place_Root g_bits_Clear) (clDF (Cb_word_Cells g_block_Many g_place_Cells g_place_Tops g_bits_Mask g_place_Leaves g_word_New g_word_Full g_place_Top g_place_Root g_bits_Clear) 0) (hdOf (Cb_word_Cells g_block_Many g_place_Cells g_place_Tops g_bits_Mask g_place_Leaves g_word_New g_word_Full g_place_Top g_place_Root g_bits_Clear) hd_word_Cells) 10 1 [(Ty.slice u64)] (res1 (Ty.slice u64)) L (h1_word_Cells s3 s6 s39 s40 m0 m1)).opt = word_Cells_s1b g_block_Many g_place_Cells g_place_Tops g_bits_Mask g_place_Leaves g_word_New g_word_Full g_place_Top g_place_Root g_bits_Clear (fun s3 s19 s20 m0 m1 => (L (todoOf (Cb_word_Cells g_block_Many g_place_Cells g_place_Tops g_bits_Mask g_place_Leaves g_word_New g_word_Full g_place_Top g_place_Root g_bits_Clear) 10 0) (h0_word_Cells s3 s19 s20 m0 m1)).opt) (fun s3 s6 s39 s40 m0 m1 => (L (todoOf (Cb_word_Cells g_block_Many g_place_Cells g_place_Tops g_bits_Mask g_place_Leaves g_word_New g_word_Full g_place_Top g_place_Root g_bits_Clear) 10 1) (h1_word_Cells s3 s6 s39 s40 m0 m1)).opt) s3 s6 s39 s40 m0 m1 := by kernel_rfl
theorem rd1_word_Cells (L : Lp S ((List Int))) (s3 : Int) (s6 : Int) (s39 : Int) (s40 : Int) (m0 : Conf) (m1 : (List Int)) : (roundW C_word_Cells (clD C_word_Cells 0) (hdOf C_word_Cells hd_word_Cells) 10 1 [(Ty.slice u64)] (res1 (Ty.slice u64)) L (h1_word_Cells s3 s6 s39 s40 m0 m1)).opt = word_Cells_s1 (fun s3 s19 s20 m0 m1 => (L (todoOf C_word_Cells 10 0) (h0_word_Cells s3 s19 s20 m0 m1)).opt) (fun s3 s6 s39 s40 m0 m1 => (L (todoOf C_word_Cells 10 1) (h1_word_Cells s3 s6 s39 s40 m0 m1)).opt) s3 s6 s39 s40 m0 m1 := (congrArg D.opt (roundWF_eq _ _ _ _ _ _ _ L _)).trans (rdb1_word_Cells block_Many place_Cells place_Tops bits_Mask place_Leaves word_New word_Full place_Top place_Root bits_Clear L s3 s6 s39 s40 m0 m1)
theorem enb_word_Cells (g_block_Many : Block → Option (Int)) (g_place_Cells : Int → Option (Int)) (g_place_Tops : Int → Option (Int)) (g_bits_Mask : Int → Option (Int)) (g_place_Leaves : Int → Option (Int)) (g_word_New : Conf → Int → Option (Int)) (g_word_Full : Int → Option (Bool)) (g_place_Top : Int → Int → Option (Int × Int)) (g_place_Root : Int → Int → Option (Int × Int)) (g_bits_Clear : Int → Int → Option (Int)) (L : Lp S ((List Int))) (a0 : Conf) : (runWF (Cb_word_Cells g_block_Many g_place_Cells g_place_Tops g_bits_Mask g_place_Leaves g_word_New g_word_Full g_place_Top g_place_Root g_bits_Clear) (clDF (Cb_word_Cells g_block_Many g_place_Cells g_place_Tops g_bits_Mask g_place_Leaves g_word_New g_word_Full g_place_Top g_place_Root g_bits_Clear) 0) (fun _ => canonL (hdOf (Cb_word_Cells g_block_Many g_place_Cells g_place_Tops g_bits_Mask g_place_Leaves g_word_New g_word_Full g_place_Top g_place_Root g_bits_Clear) hd_word_Cells) L) 10 [(Ty.slice u64)] (res1 (Ty.slice u64)) [encV E (Ty.st 1) a0]).opt = word_Cells_eb g_block_Many g_place_Cells g_place_Tops g_bits_Mask g_place_Leaves g_word_New g_word_Full g_place_Top g_place_Root g_bits_Clear (fun s3 s19 s20 m0 m1 => (L (todoOf (Cb_word_Cells g_block_Many g_place_Cells g_place_Tops g_bits_Mask g_place_Leaves g_word_New g_word_Full g_place_Top g_place_Root g_bits_Clear) 10 0) (h0_word_Cells s3 s19 s20 m0 m1)).opt) (fun s3 s6 s39 s40 m0 m1 => (L (todoOf (Cb_word_Cells g_block_Many g_place_Cells g_place_Tops g_bits_Mask g_place_Leaves g_word_New g_word_Full g_place_Top g_place_Root g_bits_Clear) 10 1) (h1_word_Cells s3 s6 s39 s40 m0 m1)).opt) a0 := by kernel_rfl
theorem en_word_Cells (L : Lp S ((List Int))) (a0 : Conf) : (runW C_word_Cells (clD C_word_Cells 0) (fun _ => canonL (hdOf C_word_Cells hd_word_Cells) L) 10 [(Ty.slice u64)] (res1 (Ty.slice u64)) [encV E (Ty.st 1) a0]).opt = word_Cells_e (fun s3 s19 s20 m0 m1 => (L (todoOf C_word_Cells 10 0) (h0_word_Cells s3 s19 s20 m0 m1)).opt) (fun s3 s6 s39 s40 m0 m1 => (L (todoOf C_word_Cells 10 1) (h1_word_Cells s3 s6 s39 s40 m0 m1)).opt) a0 := (congrArg D.opt (runWF_eq _ _ _ _ _ _ _)).trans (enb_word_Cells block_Many place_Cells place_Tops bits_Mask place_Leaves word_New word_Full place_Top place_Root bits_Clear L a0)
theorem fx_word_Cells : ∀ n, (∀ (s3 : Int) (s19 : Int) (s20 : Int) (m0 : Conf) (m1 : (List Int)), (Lfix C_word_Cells (clD C_word_Cells 0) (hdOf C_word_Cells hd_word_Cells) (finW C_word_Cells 10 [(Ty.slice u64)] (res1 (Ty.slice u64))) n (todoOf C_word_Cells 10 0) (h0_word_Cells s3 s19 s20 m0 m1)).opt = word_Cells_l0 n s3 s19 s20 m0 m1) ∧ (∀ (s3 : Int) (s6 : Int) (s39 : Int) (s40 : Int) (m0 : Conf) (m1 : (List Int)), (Lfix C_word_Cells (clD C_word_Cells 0) (hdOf C_word_Cells hd_word_Cells) (finW C_word_Cells 10 [(Ty.slice u64)] (res1 (Ty.slice u64))) n (todoOf C_word_Cells 10 1) (h1_word_Cells s3 s6 s39 s40 m0 m1)).opt = word_Cells_l1 n s3 s6 s39 s40 m0 m1)
  | 0 => ⟨fun _ _ _ _ _ => rfl, fun _ _ _ _ _ _ => rfl⟩
  | n + 1 => by
    have ih := fx_word_Cells n
    have e0 : (fun s3 s19 s20 m0 m1 => (Lfix C_word_Cells (clD C_word_Cells 0) (hdOf C_word_Cells hd_word_Cells) (finW C_word_Cells 10 [(Ty.slice u64)] (res1 (Ty.slice u64))) n (todoOf C_word_Cells 10 0) (h0_word_Cells s3 s19 s20 m0 m1)).opt) = word_Cells_l0 n := funext fun s3 => funext fun s19 => funext fun s20 => funext fun m0 => funext fun m1 => ih.1 s3 s19 s20 m0 m1
    have e1 : (fun s3 s6 s39 s40 m0 m1 => (Lfix C_word_Cells (clD C_word_Cells 0) (hdOf C_word_Cells hd_word_Cells) (finW C_word_Cells 10 [(Ty.slice u64)] (res1 (Ty.slice u64))) n (todoOf C_word_Cells 10 1) (h1_word_Cells s3 s6 s39 s40 m0 m1)).opt) = word_Cells_l1 n := funext fun s3 => funext fun s6 => funext fun s39 => funext fun s40 => funext fun m0 => funext fun m1 => ih.2 s3 s6 s39 s40 m0 m1
    exact ⟨fun s3 s19 s20 m0 m1 => (congrArg D.opt (Lfix_round C_word_Cells (clD C_word_Cells 0) (hdOf C_word_Cells hd_word_Cells) 10 0 [(Ty.slice u64)] (res1 (Ty.slice u64)) n _)).trans ((rd0_word_Cells (Lfix C_word_Cells (clD C_word_Cells 0) (hdOf C_word_Cells hd_word_Cells) (finW C_word_Cells 10 [(Ty.slice u64)] (res1 (Ty.slice u64))) n) s3 s19 s20 m0 m1).trans ((congrArg (fun x => word_Cells_s0  x (fun s3 s6 s39 s40 m0 m1 => (Lfix C_word_Cells (clD C_word_Cells 0) (hdOf C_word_Cells hd_word_Cells) (finW C_word_Cells 10 [(Ty.slice u64)] (res1 (Ty.slice u64))) n (todoOf C_word_Cells 10 1) (h1_word_Cells s3 s6 s39 s40 m0 m1)).opt) s3 s19 s20 m0 m1) e0).trans (congrArg (fun x => word_Cells_s0 (word_Cells_l0 n) x  s3 s19 s20 m0 m1) e1))), fun s3 s6 s39 s40 m0 m1 => (congrArg D.opt (Lfix_round C_word_Cells (clD C_word_Cells 0) (hdOf C_word_Cells hd_word_Cells) 10 1 [(Ty.slice u64)] (res1 (Ty.slice u64)) n _)).trans ((rd1_word_Cells (Lfix C_word_Cells (clD C_word_Cells 0) (hdOf C_word_Cells hd_word_Cells) (finW C_word_Cells 10 [(Ty.slice u64)] (res1 (Ty.slice u64))) n) s3 s6 s39 s40 m0 m1).trans ((congrArg (fun x => word_Cells_s1  x (fun s3 s6 s39 s40 m0 m1 => (Lfix C_word_Cells (clD C_word_Cells 0) (hdOf C_word_Cells hd_word_Cells) (finW C_word_Cells 10 [(Ty.slice u64)] (res1 (Ty.slice u64))) n (todoOf C_word_Cells 10 1) (h1_word_Cells s3 s6 s39 s40 m0 m1)).opt) s3 s6 s39 s40 m0 m1) e0).trans (congrArg (fun x => word_Cells_s1 (word_Cells_l0 n) x  s3 s6 s39 s40 m0 m1) e1)))⟩
theorem ev_word_Cells (n : Nat) (a0 : Conf) : (runF C_word_Cells (clD C_word_Cells 0) (hdOf C_word_Cells hd_word_Cells) 10 [(Ty.slice u64)] (res1 (Ty.slice u64)) n [encV E (Ty.st 1) a0]).opt = word_Cells_n n a0 := by
  have ih := fx_word_Cells n
  have e0 : (fun s3 s19 s20 m0 m1 => (Lfix C_word_Cells (clD C_word_Cells 0) (hdOf C_word_Cells hd_word_Cells) (finW C_word_Cells 10 [(Ty.slice u64)] (res1 (Ty.slice u64))) n (todoOf C_word_Cells 10 0) (h0_word_Cells s3 s19 s20 m0 m1)).opt) = word_Cells_l0 n := funext fun s3 => funext fun s19 => funext fun s20 => funext fun m0 => funext fun m1 => ih.1 s3 s19 s20 m0 m1
  have e1 : (fun s3 s6 s39 s40 m0 m1 => (Lfix C_word_Cells (clD C_word_Cells 0) (hdOf C_word_Cells hd_word_Cells) (finW C_word_Cells 10 [(Ty.slice u64)] (res1 (Ty.slice u64))) n (todoOf C_word_Cells 10 1) (h1_word_Cells s3 s6 s39 s40 m0 m1)).opt) = word_Cells_l1 n := funext fun s3 => funext fun s6 => funext fun s39 => funext fun s40 => funext fun m0 => funext fun m1 => ih.2 s3 s6 s39 s40 m0 m1
  exact (congrArg D.opt (runF_eq C_word_Cells (clD C_word_Cells 0) (hdOf C_word_Cells hd_word_Cells) 10 [(Ty.slice u64)] (res1 (Ty.slice u64)) n _)).trans ((en_word_Cells (Lfix C_word_Cells (clD C_word_Cells 0) (hdOf C_word_Cells hd_word_Cells) (finW C_word_Cells 10 [(Ty.slice u64)] (res1 (Ty.slice u64))) n) a0).trans ((congrArg (fun x => word_Cells_e  x (fun s3 s6 s39 s40 m0 m1 => (Lfix C_word_Cells (clD C_word_Cells 0) (hdOf C_word_Cells hd_word_Cells) (finW C_word_Cells 10 [(Ty.slice u64)] (res1 (Ty.slice u64))) n (todoOf C_word_Cells 10 1) (h1_word_Cells s3 s6 s39 s40 m0 m1)).opt) a0) e0).trans (congrArg (fun x => word_Cells_e (word_Cells_l0 n) x  a0) e1)))
theorem ok_word_Cells : SpecOK C_word_Cells 10 sp_word_Cells := by
  have hS := specs_ok (C := C_word_Cells) (l := us_word_Cells) rfl ⟨ok_block_Many.re rfl rfl rfl, ok_place_Cells.re rfl rfl rfl, ok_place_Tops.re rfl rfl rfl, ok_bits_Mask.re rfl rfl rfl, ok_place_Leaves.re rfl rfl rfl, ok_word_New.re rfl rfl rfl, ok_word_Full.re rfl rfl rfl, ok_place_Top.re rfl rfl rfl, ok_place_Root.re rfl rfl rfl, ok_bits_Clear.re rfl rfl rfl, trivial⟩
  refine spec_ok (C := C_word_Cells) (cl := (clD C_word_Cells 0)) (hd := (hdOf C_word_Cells hd_word_Cells)) envOK (tyOK_of (l := tab) rfl tabT) hS (clD_ok envOK (tyOK_of (l := tab) rfl tabT) hS mixed (inl_ok (l := []) rfl (by kernel_rfl)) _) mixed (hdOf_ok envOK hd_word_Cells) (by kernel_rfl) [(Ty.slice u64)] (res1 (Ty.slice u64)) (de1 (S := S) (Ty.slice u64)) fun cs r h => ?_
  obtain ⟨a0, rfl, h⟩ := inv1 h
  exact ⟨big, (ev_word_Cells big a0).trans ((def_word_Cells a0).symm.trans h)⟩
-- lodger/ask.size
def ask_size_b  (a0 : Ask) : Option (Int) := (bif (a0.kind != 4) then some 0 else (bif ((List.length a0.addrs : Int) == 0) then some 7 else (bif (decide ((List.length a0.addrs : Int) > 64)) then some 1 else some 0)))
def sp_ask_size : Spec S := { args := [(Ty.st 2)], R := Int, run := run1 (Ty.st 2) ask_size, enc := enc1 (S := S) i64 }
def spb_ask_size (F : Ask → Option (Int)) : Spec S := { args := [(Ty.st 2)], R := Int, run := run1 (Ty.st 2) F, enc := enc1 (S := S) i64 }
def usb_ask_size  : List (Nat × Spec S) := []
def us_ask_size : List (Nat × Spec S) := []
noncomputable def Cb_ask_size  : Ctx S := { P := Tryd.prog, E := E, ty := tyL tab, G := glL gtab, spec := spL (usb_ask_size ), inl := inL [] }
noncomputable def C_ask_size : Ctx S := Cb_ask_size 
theorem evb_ask_size  (L : (St S → D (Int)) → Lp S (Int)) (a0 : Ask) : (runWF (Cb_ask_size ) (clDF (Cb_ask_size ) 0) L 66 [i64] (res1 i64) [encV E (Ty.st 2) a0]).opt = ask_size_b  a0 := by kernel_rfl
theorem ev_ask_size (L : (St S → D (Int)) → Lp S (Int)) (a0 : Ask) : (runW C_ask_size (clD C_ask_size 0) L 66 [i64] (res1 i64) [encV E (Ty.st 2) a0]).opt = ask_size a0 := (congrArg D.opt (runWF_eq _ _ L _ _ _ _)).trans (evb_ask_size  L a0)
theorem ok_ask_size : SpecOK C_ask_size 66 sp_ask_size := by
  have hS := specs_ok (C := C_ask_size) (l := us_ask_size) rfl trivial
  refine spec_ok (C := C_ask_size) (cl := (clD C_ask_size 0)) (hd := (fun _ s => some s)) envOK (tyOK_of (l := tab) rfl tabT) hS (clD_ok envOK (tyOK_of (l := tab) rfl tabT) hS mixed (inl_ok (l := []) rfl (by kernel_rfl)) _) mixed HdOK.id (by kernel_rfl) [i64] (res1 i64) (de1 (S := S) i64) fun cs r h => ?_
  obtain ⟨a0, rfl, h⟩ := inv1 h
  exact ⟨0, (ev_ask_size _ a0).trans h⟩
-- slices.Clone[[]uint32,uint32]
end Go.Lv.Ld
namespace Go.Proofs
open Go.Shelf
def Tryd.lvslices_Clone_ren : Go.Shelf.Ren := ⟨fun | 41 => 69 | n => n, fun | 22 => 28 | 23 => 22 | 4 => 4 | n => n, fun | n => n⟩
theorem Tryd.lvslices_Clone : Go.Proofs.SlLaysE0.n41 Tryd.prog Tryd.lvslices_Clone_ren := {
  mixed := by kernel_rfl
  f41 := ⟨Tryd.f69.name, by decide, Tryd.func69.trans (congrArg some (by kernel_rfl))⟩
  t4 := Tryd.underlying4
  a4 := Tryd.isAgg4
  z4 := Tryd.sizeOf4
  v4 := Tryd.zeroValue4
  t22 := Tryd.underlying28
  a22 := Tryd.isAgg28
  z22 := Tryd.sizeOf28
  v22 := Tryd.zeroValue28 }
end Go.Proofs
namespace Go.Lv.Ld
open Go Go.Lv Go.Proofs
set_option linter.all false
set_option maxRecDepth 100000
def sp_slices_Clone : Spec S := { args := [(Ty.slice u32)], R := (List Int), run := run1 (Ty.slice u32) slices_Clone, enc := enc1 (S := S) (Ty.slice u32) }
def spb_slices_Clone (F : (List Int) → Option ((List Int))) : Spec S := { args := [(Ty.slice u32)], R := (List Int), run := run1 (Ty.slice u32) F, enc := enc1 (S := S) (Ty.slice u32) }
noncomputable def C_slices_Clone : Ctx S := { P := Tryd.prog, E := E, ty := tyL tab, G := glL gtab, spec := fun _ => none, inl := fun _ => false }
theorem ok_slices_Clone : SpecOK C_slices_Clone 69 sp_slices_Clone := ok_Clone (C := C_slices_Clone) (ρ := Tryd.lvslices_Clone_ren) (T := u32) envOK (tyOK_of (l := tab) rfl tabT) Tryd.lvslices_Clone rfl (lvEnters (by kernel_rfl))
-- lodger/ask.Names
def ask_Names_b (g_slices_Clone : (List Int) → Option ((List Int))) (a0 : Ask) : Option ((List Int)) := (bif (a0.kind == 4) then ((g_slices_Clone a0.addrs).bind fun r1 => some r1) else (bif (decide (a0.kind ≥ 0)) then (bif (decide (a0.kind < 6)) then (bif (a0.kind == (0 : Int)) then some [] else (bif (a0.kind == (1 : Int)) then some [] else (bif (a0.kind == (2 : Int)) then some ([a0.addr] : List Int) else (bif (a0.kind == (3 : Int)) then some ([a0.addr] : List Int) else (bif (a0.kind == (4 : Int)) then some [] else (bif (a0.kind == (5 : Int)) then some ([a0.addr] : List Int) else none)))))) else some []) else some []))
def sp_ask_Names : Spec S := { args := [(Ty.st 2)], R := (List Int), run := run1 (Ty.st 2) ask_Names, enc := enc1 (S := S) (Ty.slice u32) }
def spb_ask_Names (F : Ask → Option ((List Int))) : Spec S := { args := [(Ty.st 2)], R := (List Int), run := run1 (Ty.st 2) F, enc := enc1 (S := S) (Ty.slice u32) }
def usb_ask_Names (g_slices_Clone : (List Int) → Option ((List Int))) : List (Nat × Spec S) := [(69, spb_slices_Clone g_slices_Clone)]
def us_ask_Names : List (Nat × Spec S) := [(69, sp_slices_Clone)]
noncomputable def Cb_ask_Names (g_slices_Clone : (List Int) → Option ((List Int))) : Ctx S := { P := Tryd.prog, E := E, ty := tyL tab, G := glL gtab, spec := spL (usb_ask_Names g_slices_Clone), inl := inL [] }
noncomputable def C_ask_Names : Ctx S := Cb_ask_Names slices_Clone
theorem evb_ask_Names (g_slices_Clone : (List Int) → Option ((List Int))) (L : (St S → D ((List Int))) → Lp S ((List Int))) (a0 : Ask) : (runWF (Cb_ask_Names g_slices_Clone) (clDF (Cb_ask_Names g_slices_Clone) 0) L 67 [(Ty.slice u32)] (res1 (Ty.slice u32)) [encV E (Ty.st 2) a0]).opt = ask_Names_b g_slices_Clone a0 := by kernel_rfl
theorem ev_ask_Names (L : (St S → D ((List Int))) → Lp S ((List Int))) (a0 : Ask) : (runW C_ask_Names (clD C_ask_Names 0) L 67 [(Ty.slice u32)] (res1 (Ty.slice u32)) [encV E (Ty.st 2) a0]).opt = ask_Names a0 := (congrArg D.opt (runWF_eq _ _ L _ _ _ _)).trans (evb_ask_Names slices_Clone L a0)
theorem ok_ask_Names : SpecOK C_ask_Names 67 sp_ask_Names := by
  have hS := specs_ok (C := C_ask_Names) (l := us_ask_Names) rfl ⟨ok_slices_Clone.re rfl rfl rfl, trivial⟩
  refine spec_ok (C := C_ask_Names) (cl := (clD C_ask_Names 0)) (hd := (fun _ s => some s)) envOK (tyOK_of (l := tab) rfl tabT) hS (clD_ok envOK (tyOK_of (l := tab) rfl tabT) hS mixed (inl_ok (l := []) rfl (by kernel_rfl)) _) mixed HdOK.id (by kernel_rfl) [(Ty.slice u32)] (res1 (Ty.slice u32)) (de1 (S := S) (Ty.slice u32)) fun cs r h => ?_
  obtain ⟨a0, rfl, h⟩ := inv1 h
  exact ⟨0, (ev_ask_Names _ a0).trans h⟩
-- lodger/block.Offset
def block_Offset_b (g_block_Many : Block → Option (Int)) (a0 : Block) (a1 : Int) : Option (Int × Int) := (bif (decide ((IntKind.wrap .i64 ((IntKind.wrap .i64 a1) - (IntKind.wrap .i64 a0.base))) ≥ 0)) then ((g_block_Many a0).bind fun r1 => (bif (decide ((IntKind.wrap .i64 ((IntKind.wrap .i64 a1) - (IntKind.wrap .i64 a0.base))) < r1)) then some ((IntKind.wrap .i64 ((IntKind.wrap .i64 a1) - (IntKind.wrap .i64 a0.base))), 0) else some (0, 3))) else some (0, 3))
def sp_block_Offset : Spec S := { args := [(Ty.st 0), u32], R := Int × Int, run := run2 (Ty.st 0) u32 block_Offset, enc := enc2 (S := S) i64 i64 }
def spb_block_Offset (F : Block → Int → Option (Int × Int)) : Spec S := { args := [(Ty.st 0), u32], R := Int × Int, run := run2 (Ty.st 0) u32 F, enc := enc2 (S := S) i64 i64 }
def usb_block_Offset (g_block_Many : Block → Option (Int)) : List (Nat × Spec S) := [(25, spb_block_Many g_block_Many)]
def us_block_Offset : List (Nat × Spec S) := [(25, sp_block_Many)]
noncomputable def Cb_block_Offset (g_block_Many : Block → Option (Int)) : Ctx S := { P := Tryd.prog, E := E, ty := tyL tab, G := glL gtab, spec := spL (usb_block_Offset g_block_Many), inl := inL [] }
noncomputable def C_block_Offset : Ctx S := Cb_block_Offset block_Many
theorem evb_block_Offset (g_block_Many : Block → Option (Int)) (L : (St S → D (Int × Int)) → Lp S (Int × Int)) (a0 : Block) (a1 : Int) : (runWF (Cb_block_Offset g_block_Many) (clDF (Cb_block_Offset g_block_Many) 0) L 70 [i64, i64] (res2 i64 i64) [encV E (Ty.st 0) a0, encV E u32 a1]).opt = block_Offset_b g_block_Many a0 a1 := by kernel_rfl
theorem ev_block_Offset (L : (St S → D (Int × Int)) → Lp S (Int × Int)) (a0 : Block) (a1 : Int) : (runW C_block_Offset (clD C_block_Offset 0) L 70 [i64, i64] (res2 i64 i64) [encV E (Ty.st 0) a0, encV E u32 a1]).opt = block_Offset a0 a1 := (congrArg D.opt (runWF_eq _ _ L _ _ _ _)).trans (evb_block_Offset block_Many L a0 a1)
theorem ok_block_Offset : SpecOK C_block_Offset 70 sp_block_Offset := by
  have hS := specs_ok (C := C_block_Offset) (l := us_block_Offset) rfl ⟨ok_block_Many.re rfl rfl rfl, trivial⟩
  refine spec_ok (C := C_block_Offset) (cl := (clD C_block_Offset 0)) (hd := (fun _ s => some s)) envOK (tyOK_of (l := tab) rfl tabT) hS (clD_ok envOK (tyOK_of (l := tab) rfl tabT) hS mixed (inl_ok (l := []) rfl (by kernel_rfl)) _) mixed HdOK.id (by kernel_rfl) [i64, i64] (res2 i64 i64) (de2 (S := S) i64 i64) fun cs r h => ?_
  obtain ⟨a0, a1, rfl, h⟩ := inv2 h
  exact ⟨0, (ev_block_Offset _ a0 a1).trans h⟩
-- slices.Index[[]int,int]
def slices_Index_s0b  (k0 : (List Int) → Int → Int → Int → Option (Int)) (s0 : (List Int)) (s1 : Int) (s7 : Int) (s8 : Int) : Option (Int) := (bif (decide (s8 < s7)) then ((geti s0 s8).bind fun x1 => (bif (s1 == x1) then some s8 else k0 s0 s1 s7 (IntKind.wrap .i64 (s8 + 1)))) else some (-1))
def slices_Index_eb  (k0 : (List Int) → Int → Int → Int → Option (Int)) (a0 : (List Int)) (a1 : Int) : Option (Int) := k0 a0 a1 (List.length a0 : Int) 0
def sp_slices_Index : Spec S := { args := [(Ty.slice i64), i64], R := Int, run := run2 (Ty.slice i64) i64 slices_Index, enc := enc1 (S := S) i64 }
def spb_slices_Index (F : (List Int) → Int → Option (Int)) : Spec S := { args := [(Ty.slice i64), i64], R := Int, run := run2 (Ty.slice i64) i64 F, enc := enc1 (S := S) i64 }
def usb_slices_Index  : List (Nat × Spec S) := []
def us_slices_Index : List (Nat × Spec S) := []
noncomputable def Cb_slices_Index  : Ctx S := { P := Tryd.prog, E := E, ty := tyL tab, G := glL gtab, spec := spL (usb_slices_Index ), inl := inL [] }
noncomputable def C_slices_Index : Ctx S := Cb_slices_Index 
def hd_slices_Index : List ((Nat × Nat) × List Hs) := [((2, 2), [.canon 0 [] [0, 1, 7, 8], .plain 0 (Ty.slice i64), .plain 1 i64, .plain 7 i64, .plain 8 i64])]
def h0_slices_Index (s0 : (List Int)) (s1 : Int) (s7 : Int) (s8 : Int) : St S := { tmps := [.cell (Ty.slice i64) s0, .cell i64 s1, .undef, .undef, .undef, .undef, .undef, .cell i64 s7, .cell i64 s8, .undef, .undef, .undef, .undef, .undef, .undef, .undef, .undef, .undef, .undef], mem := [] }
theorem rdb0_slices_Index  (L : Lp S (Int)) (s0 : (List Int)) (s1 : Int) (s7 : Int) (s8 : Int) : (roundWF (Cb_slices_Index ) (clDF (Cb_slices_Index ) 0) (hdOf (Cb_slices_Index ) hd_slices_Index) 73 0 [i64] (res1 i64) L (h0_slices_Index s0 s1 s7 s8)).opt = slices_Index_s0b  (fun s0 s1 s7 s8 => (L (todoOf (Cb_slices_Index ) 73 0) (h0_slices_Index s0 s1 s7 s8)).opt) s0 s1 s7 s8 := by kernel_rfl
theorem rd0_slices_Index (L : Lp S (Int)) (s0 : (List Int)) (s1 : Int) (s7 : Int) (s8 : Int) : (roundW C_slices_Index (clD C_slices_Index 0) (hdOf C_slices_Index hd_slices_Index) 73 0 [i64] (res1 i64) L (h0_slices_Index s0 s1 s7 s8)).opt = slices_Index_s0 (fun s0 s1 s7 s8 => (L (todoOf C_slices_Index 73 0) (h0_slices_Index s0 s1 s7 s8)).opt) s0 s1 s7 s8 := (congrArg D.opt (roundWF_eq _ _ _ _ _ _ _ L _)).trans (rdb0_slices_Index  L s0 s1 s7 s8)
theorem enb_slices_Index  (L : Lp S (Int)) (a0 : (List Int)) (a1 : Int) : (runWF (Cb_slices_Index ) (clDF (Cb_slices_Index ) 0) (fun _ => canonL (hdOf (Cb_slices_Index ) hd_slices_Index) L) 73 [i64] (res1 i64) [encV E (Ty.slice i64) a0, encV E i64 a1]).opt = slices_Index_eb  (fun s0 s1 s7 s8 => (L (todoOf (Cb_slices_Index ) 73 0) (h0_slices_Index s0 s1 s7 s8)).opt) a0 a1 := by kernel_rfl
theorem en_slices_Index (L : Lp S (Int)) (a0 : (List Int)) (a1 : Int) : (runW C_slices_Index (clD C_slices_Index 0) (fun _ => canonL (hdOf C_slices_Index hd_slices_Index) L) 73 [i64] (res1 i64) [encV E (Ty.slice i64) a0, encV E i64 a1]).opt = slices_Index_e (fun s0 s1 s7 s8 => (L (todoOf C_slices_Index 73 0) (h0_slices_Index s0 s1 s7 s8)).opt) a0 a1 := (congrArg D.opt (runWF_eq _ _ _ _ _ _ _)).trans (enb_slices_Index  L a0 a1)
theorem fx_slices_Index : ∀ n, (∀ (s0 : (List Int)) (s1 : Int) (s7 : Int) (s8 : Int), (Lfix C_slices_Index (clD C_slices_Index 0) (hdOf C_slices_Index hd_slices_Index) (finW C_slices_Index 73 [i64] (res1 i64)) n (todoOf C_slices_Index 73 0) (h0_slices_Index s0 s1 s7 s8)).opt = slices_Index_l0 n s0 s1 s7 s8)
  | 0 => fun _ _ _ _ => rfl
  | n + 1 => by
    have ih := fx_slices_Index n
    have e0 : (fun s0 s1 s7 s8 => (Lfix C_slices_Index (clD C_slices_Index 0) (hdOf C_slices_Index hd_slices_Index) (finW C_slices_Index 73 [i64] (res1 i64)) n (todoOf C_slices_Index 73 0) (h0_slices_Index s0 s1 s7 s8)).opt) = slices_Index_l0 n := funext fun s0 => funext fun s1 => funext fun s7 => funext fun s8 => ih s0 s1 s7 s8
    exact fun s0 s1 s7 s8 => (congrArg D.opt (Lfix_round C_slices_Index (clD C_slices_Index 0) (hdOf C_slices_Index hd_slices_Index) 73 0 [i64] (res1 i64) n _)).trans ((rd0_slices_Index (Lfix C_slices_Index (clD C_slices_Index 0) (hdOf C_slices_Index hd_slices_Index) (finW C_slices_Index 73 [i64] (res1 i64)) n) s0 s1 s7 s8).trans (congrArg (fun x => slices_Index_s0  x  s0 s1 s7 s8) e0))
theorem ev_slices_Index (n : Nat) (a0 : (List Int)) (a1 : Int) : (runF C_slices_Index (clD C_slices_Index 0) (hdOf C_slices_Index hd_slices_Index) 73 [i64] (res1 i64) n [encV E (Ty.slice i64) a0, encV E i64 a1]).opt = slices_Index_n n a0 a1 := by
  have ih := fx_slices_Index n
  have e0 : (fun s0 s1 s7 s8 => (Lfix C_slices_Index (clD C_slices_Index 0) (hdOf C_slices_Index hd_slices_Index) (finW C_slices_Index 73 [i64] (res1 i64)) n (todoOf C_slices_Index 73 0) (h0_slices_Index s0 s1 s7 s8)).opt) = slices_Index_l0 n := funext fun s0 => funext fun s1 => funext fun s7 => funext fun s8 => ih s0 s1 s7 s8
  exact (congrArg D.opt (runF_eq C_slices_Index (clD C_slices_Index 0) (hdOf C_slices_Index hd_slices_Index) 73 [i64] (res1 i64) n _)).trans ((en_slices_Index (Lfix C_slices_Index (clD C_slices_Index 0) (hdOf C_slices_Index hd_slices_Index) (finW C_slices_Index 73 [i64] (res1 i64)) n) a0 a1).trans (congrArg (fun x => slices_Index_e  x  a0 a1) e0))
theorem ok_slices_Index : SpecOK C_slices_Index 73 sp_slices_Index := by
  have hS := specs_ok (C := C_slices_Index) (l := us_slices_Index) rfl trivial
  refine spec_ok (C := C_slices_Index) (cl := (clD C_slices_Index 0)) (hd := (hdOf C_slices_Index hd_slices_Index)) envOK (tyOK_of (l := tab) rfl tabT) hS (clD_ok envOK (tyOK_of (l := tab) rfl tabT) hS mixed (inl_ok (l := []) rfl (by kernel_rfl)) _) mixed (hdOf_ok envOK hd_slices_Index) (by kernel_rfl) [i64] (res1 i64) (de1 (S := S) i64) fun cs r h => ?_
  obtain ⟨a0, a1, rfl, h⟩ := inv2 h
  exact ⟨big, (ev_slices_Index big a0 a1).trans ((def_slices_Index a0 a1).symm.trans h)⟩
-- slices.Contains[[]int,int]
def slices_Contains_b (g_slices_Index : (List Int) → Int → Option (Int)) (a0 : (List Int)) (a1 : Int) : Option (Bool) := ((g_slices_Index a0 a1).bind fun r1 => some (decide (r1 ≥ 0)))
def sp_slices_Contains : Spec S := { args := [(Ty.slice i64), i64], R := Bool, run := run2 (Ty.slice i64) i64 slices_Contains, enc := enc1 (S := S) Ty.bool }
def spb_slices_Contains (F : (List Int) → Int → Option (Bool)) : Spec S := { args := [(Ty.slice i64), i64], R := Bool, run := run2 (Ty.slice i64) i64 F, enc := enc1 (S := S) Ty.bool }
def usb_slices_Contains (g_slices_Index : (List Int) → Int → Option (Int)) : List (Nat × Spec S) := [(73, spb_slices_Index g_slices_Index)]
def us_slices_Contains : List (Nat × Spec S) := [(73, sp_slices_Index)]
noncomputable def Cb_slices_Contains (g_slices_Index : (List Int) → Int → Option (Int)) : Ctx S := { P := Tryd.prog, E := E, ty := tyL tab, G := glL gtab, spec := spL (usb_slices_Contains g_slices_Index), inl := inL [] }
noncomputable def C_slices_Contains : Ctx S := Cb_slices_Contains slices_Index
theorem evb_slices_Contains (g_slices_Index : (List Int) → Int → Option (Int)) (L : (St S → D (Bool)) → Lp S (Bool)) (a0 : (List Int)) (a1 : Int) : (runWF (Cb_slices_Contains g_slices_Index) (clDF (Cb_slices_Contains g_slices_Index) 0) L 72 [Ty.bool] (res1 Ty.bool) [encV E (Ty.slice i64) a0, encV E i64 a1]).opt = slices_Contains_b g_slices_Index a0 a1 := by kernel_rfl
theorem ev_slices_Contains (L : (St S → D (Bool)) → Lp S (Bool)) (a0 : (List Int)) (a1 : Int) : (runW C_slices_Contains (clD C_slices_Contains 0) L 72 [Ty.bool] (res1 Ty.bool) [encV E (Ty.slice i64) a0, encV E i64 a1]).opt = slices_Contains a0 a1 := (congrArg D.opt (runWF_eq _ _ L _ _ _ _)).trans (evb_slices_Contains slices_Index L a0 a1)
theorem ok_slices_Contains : SpecOK C_slices_Contains 72 sp_slices_Contains := by
  have hS := specs_ok (C := C_slices_Contains) (l := us_slices_Contains) rfl ⟨ok_slices_Index.re rfl rfl rfl, trivial⟩
  refine spec_ok (C := C_slices_Contains) (cl := (clD C_slices_Contains 0)) (hd := (fun _ s => some s)) envOK (tyOK_of (l := tab) rfl tabT) hS (clD_ok envOK (tyOK_of (l := tab) rfl tabT) hS mixed (inl_ok (l := []) rfl (by kernel_rfl)) _) mixed HdOK.id (by kernel_rfl) [Ty.bool] (res1 Ty.bool) (de1 (S := S) Ty.bool) fun cs r h => ?_
  obtain ⟨a0, a1, rfl, h⟩ := inv2 h
  exact ⟨0, (ev_slices_Contains _ a0 a1).trans h⟩
-- lodger/block.Held
def block_Held_b (g_slices_Contains : (List Int) → Int → Option (Bool)) (a0 : Conf) (a1 : Int) : Option (Bool) := ((g_slices_Contains a0.held a1).bind fun r1 => some r1)
def sp_block_Held : Spec S := { args := [(Ty.st 1), i64], R := Bool, run := run2 (Ty.st 1) i64 block_Held, enc := enc1 (S := S) Ty.bool }
def spb_block_Held (F : Conf → Int → Option (Bool)) : Spec S := { args := [(Ty.st 1), i64], R := Bool, run := run2 (Ty.st 1) i64 F, enc := enc1 (S := S) Ty.bool }
def usb_block_Held (g_slices_Contains : (List Int) → Int → Option (Bool)) : List (Nat × Spec S) := [(72, spb_slices_Contains g_slices_Contains)]
def us_block_Held : List (Nat × Spec S) := [(72, sp_slices_Contains)]
noncomputable def Cb_block_Held (g_slices_Contains : (List Int) → Int → Option (Bool)) : Ctx S := { P := Tryd.prog, E := E, ty := tyL tab, G := glL gtab, spec := spL (usb_block_Held g_slices_Contains), inl := inL [] }
noncomputable def C_block_Held : Ctx S := Cb_block_Held slices_Contains
theorem evb_block_Held (g_slices_Contains : (List Int) → Int → Option (Bool)) (L : (St S → D (Bool)) → Lp S (Bool)) (a0 : Conf) (a1 : Int) : (runWF (Cb_block_Held g_slices_Contains) (clDF (Cb_block_Held g_slices_Contains) 0) L 71 [Ty.bool] (res1 Ty.bool) [encV E (Ty.st 1) a0, encV E i64 a1]).opt = block_Held_b g_slices_Contains a0 a1 := by kernel_rfl
theorem ev_block_Held (L : (St S → D (Bool)) → Lp S (Bool)) (a0 : Conf) (a1 : Int) : (runW C_block_Held (clD C_block_Held 0) L 71 [Ty.bool] (res1 Ty.bool) [encV E (Ty.st 1) a0, encV E i64 a1]).opt = block_Held a0 a1 := (congrArg D.opt (runWF_eq _ _ L _ _ _ _)).trans (evb_block_Held slices_Contains L a0 a1)
theorem ok_block_Held : SpecOK C_block_Held 71 sp_block_Held := by
  have hS := specs_ok (C := C_block_Held) (l := us_block_Held) rfl ⟨ok_slices_Contains.re rfl rfl rfl, trivial⟩
  refine spec_ok (C := C_block_Held) (cl := (clD C_block_Held 0)) (hd := (fun _ s => some s)) envOK (tyOK_of (l := tab) rfl tabT) hS (clD_ok envOK (tyOK_of (l := tab) rfl tabT) hS mixed (inl_ok (l := []) rfl (by kernel_rfl)) _) mixed HdOK.id (by kernel_rfl) [Ty.bool] (res1 Ty.bool) (de1 (S := S) Ty.bool) fun cs r h => ?_
  obtain ⟨a0, a1, rfl, h⟩ := inv2 h
  exact ⟨0, (ev_block_Held _ a0 a1).trans h⟩
-- lodger/block.Find
def block_Find_b (g_block_Offset : Block → Int → Option (Int × Int)) (g_block_Held : Conf → Int → Option (Bool)) (a0 : Conf) (a1 : Int) : Option (Int × Int) := ((g_block_Offset a0.block a1).bind fun r1 => (bif (r1.2 != 0) then some (0, r1.2) else ((g_block_Held a0 r1.1).bind fun r2 => (bif r2 then some (0, 4) else some (r1.1, 0)))))
def sp_block_Find : Spec S := { args := [(Ty.st 1), u32], R := Int × Int, run := run2 (Ty.st 1) u32 block_Find, enc := enc2 (S := S) i64 i64 }
def spb_block_Find (F : Conf → Int → Option (Int × Int)) : Spec S := { args := [(Ty.st 1), u32], R := Int × Int, run := run2 (Ty.st 1) u32 F, enc := enc2 (S := S) i64 i64 }
def usb_block_Find (g_block_Offset : Block → Int → Option (Int × Int)) (g_block_Held : Conf → Int → Option (Bool)) : List (Nat × Spec S) := [(70, spb_block_Offset g_block_Offset), (71, spb_block_Held g_block_Held)]
def us_block_Find : List (Nat × Spec S) := [(70, sp_block_Offset), (71, sp_block_Held)]
noncomputable def Cb_block_Find (g_block_Offset : Block → Int → Option (Int × Int)) (g_block_Held : Conf → Int → Option (Bool)) : Ctx S := { P := Tryd.prog, E := E, ty := tyL tab, G := glL gtab, spec := spL (usb_block_Find g_block_Offset g_block_Held), inl := inL [] }
noncomputable def C_block_Find : Ctx S := Cb_block_Find block_Offset block_Held
theorem evb_block_Find (g_block_Offset : Block → Int → Option (Int × Int)) (g_block_Held : Conf → Int → Option (Bool)) (L : (St S → D (Int × Int)) → Lp S (Int × Int)) (a0 : Conf) (a1 : Int) : (runWF (Cb_block_Find g_block_Offset g_block_Held) (clDF (Cb_block_Find g_block_Offset g_block_Held) 0) L 68 [i64, i64] (res2 i64 i64) [encV E (Ty.st 1) a0, encV E u32 a1]).opt = block_Find_b g_block_Offset g_block_Held a0 a1 := by kernel_rfl
theorem ev_block_Find (L : (St S → D (Int × Int)) → Lp S (Int × Int)) (a0 : Conf) (a1 : Int) : (runW C_block_Find (clD C_block_Find 0) L 68 [i64, i64] (res2 i64 i64) [encV E (Ty.st 1) a0, encV E u32 a1]).opt = block_Find a0 a1 := (congrArg D.opt (runWF_eq _ _ L _ _ _ _)).trans (evb_block_Find block_Offset block_Held L a0 a1)
theorem ok_block_Find : SpecOK C_block_Find 68 sp_block_Find := by
  have hS := specs_ok (C := C_block_Find) (l := us_block_Find) rfl ⟨ok_block_Offset.re rfl rfl rfl, ok_block_Held.re rfl rfl rfl, trivial⟩
  refine spec_ok (C := C_block_Find) (cl := (clD C_block_Find 0)) (hd := (fun _ s => some s)) envOK (tyOK_of (l := tab) rfl tabT) hS (clD_ok envOK (tyOK_of (l := tab) rfl tabT) hS mixed (inl_ok (l := []) rfl (by kernel_rfl)) _) mixed HdOK.id (by kernel_rfl) [i64, i64] (res2 i64 i64) (de2 (S := S) i64 i64) fun cs r h => ?_
  obtain ⟨a0, a1, rfl, h⟩ := inv2 h
  exact ⟨0, (ev_block_Find _ a0 a1).trans h⟩
-- lodger/ask.Check
def ask_Check_s0b (g_ask_size : Ask → Option (Int)) (g_ask_Names : Ask → Option ((List Int))) (g_block_Find : Conf → Int → Option (Int × Int)) (k0 : (List Int) → Int → Int → Conf → (List (Int × Bool)) → Option (Int)) (s26 : (List Int)) (s27 : Int) (s28 : Int) (m0 : Conf) (m2 : (List (Int × Bool))) : Option (Int) := (bif (decide (s28 < s27)) then ((geti s26 s28).bind fun x3 => ((g_block_Find m0 x3).bind fun r4 => (bif (r4.2 != 0) then some r4.2 else (bif (mget x3 m2) then some 8 else k0 s26 s27 (IntKind.wrap .i64 (s28 + 1)) m0 (mput x3 true m2))))) else some 0)
def ask_Check_eb (g_ask_size : Ask → Option (Int)) (g_ask_Names : Ask → Option ((List Int))) (g_block_Find : Conf → Int → Option (Int × Int)) (k0 : (List Int) → Int → Int → Conf → (List (Int × Bool)) → Option (Int)) (a0 : Conf) (a1 : Ask) : Option (Int) := (bif (decide (a1.kind < 1)) then some 1 else (bif (decide (a1.kind > 7)) then some 1 else ((g_ask_size a1).bind fun r1 => (bif (r1 != 0) then some r1 else ((g_ask_Names a1).bind fun r2 => k0 r2 (List.length r2 : Int) 0 a0 ([] : List (Int × Bool)))))))
def sp_ask_Check : Spec S := { args := [(Ty.st 1), (Ty.st 2)], R := Int, run := run2 (Ty.st 1) (Ty.st 2) ask_Check, enc := enc1 (S := S) i64 }
def spb_ask_Check (F : Conf → Ask → Option (Int)) : Spec S := { args := [(Ty.st 1), (Ty.st 2)], R := Int, run := run2 (Ty.st 1) (Ty.st 2) F, enc := enc1 (S := S) i64 }
def usb_ask_Check (g_ask_size : Ask → Option (Int)) (g_ask_Names : Ask → Option ((List Int))) (g_block_Find : Conf → Int → Option (Int × Int)) : List (Nat × Spec S) := [(66, spb_ask_size g_ask_size), (67, spb_ask_Names g_ask_Names), (68, spb_block_Find g_block_Find)]
def us_ask_Check : List (Nat × Spec S) := [(66, sp_ask_size), (67, sp_ask_Names), (68, sp_block_Find)]
noncomputable def Cb_ask_Check (g_ask_size : Ask → Option (Int)) (g_ask_Names : Ask → Option ((List Int))) (g_block_Find : Conf → Int → Option (Int × Int)) : Ctx S := { P := Tryd.prog, E := E, ty := tyL tab, G := glL gtab, spec := spL (usb_ask_Check g_ask_size g_ask_Names g_block_Find), inl := inL [] }
noncomputable def C_ask_Check : Ctx S := Cb_ask_Check ask_size ask_Names block_Find
def hd_ask_Check : List ((Nat × Nat) × List Hs) := [((2, 8), [.canon 3 [0, 2] [2, 6, 26, 27, 28], .plain 26 (Ty.slice u32), .plain 27 i64, .plain 28 i64, .plainB 0 0 (Ty.st 1)])]
def h0_ask_Check (s26 : (List Int)) (s27 : Int) (s28 : Int) (m0 : Conf) (m2 : (List (Int × Bool))) : St S := { tmps := [.undef, .undef, .ptr 0 0, .undef, .undef, .undef, .mapr 2, .undef, .undef, .undef, .undef, .undef, .undef, .undef, .undef, .undef, .undef, .undef, .undef, .undef, .undef, .undef, .undef, .undef, .undef, .undef, .cell (Ty.slice u32) s26, .cell i64 s27, .cell i64 s28, .undef, .undef, .undef, .undef, .undef, .undef, .undef, .undef, .undef, .undef, .undef, .undef, .undef, .undef, .undef, .undef, .undef, .undef], mem := [.box [.cell u32 m0.block.base, .cell i64 m0.block.pre, .cell (Ty.slice i64) m0.held, .cell i64 m0.shards, .cell i64 m0.workers, .cell i64 m0.queue, .cell i64 m0.tries] false, .box [.undef, .undef, .undef] false, .map u32 Ty.bool m2] }
theorem rdb0_ask_Check (g_ask_size : Ask → Option (Int)) (g_ask_Names : Ask → Option ((List Int))) (g_block_Find : Conf → Int → Option (Int × Int)) (L : Lp S (Int)) (s26 : (List Int)) (s27 : Int) (s28 : Int) (m0 : Conf) (m2 : (List (Int × Bool))) : (roundWF (Cb_ask_Check g_ask_size g_ask_Names g_block_Find) (clDF (Cb_ask_Check g_ask_size g_ask_Names g_block_Find) 0) (hdOf (Cb_ask_Check g_ask_size g_ask_Names g_block_Find) hd_ask_Check) 42 0 [i64] (res1 i64) L (h0_ask_Check s26 s27 s28 m0 m2)).opt = ask_Check_s0b g_ask_size g_ask_Names g_block_Find (fun s26 s27 s28 m0 m2 => (L (todoOf (Cb_ask_Check g_ask_size g_ask_Names g_block_Find) 42 0) (h0_ask_Check s26 s27 s28 m0 m2)).opt) s26 s27 s28 m0 m2 := by kernel_rfl
theorem rd0_ask_Check (L : Lp S (Int)) (s26 : (List Int)) (s27 : Int) (s28 : Int) (m0 : Conf) (m2 : (List (Int × Bool))) : (roundW C_ask_Check (clD C_ask_Check 0) (hdOf C_ask_Check hd_ask_Check) 42 0 [i64] (res1 i64) L (h0_ask_Check s26 s27 s28 m0 m2)).opt = ask_Check_s0 (fun s26 s27 s28 m0 m2 => (L (todoOf C_ask_Check 42 0) (h0_ask_Check s26 s27 s28 m0 m2)).opt) s26 s27 s28 m0 m2 := (congrArg D.opt (roundWF_eq _ _ _ _ _ _ _ L _)).trans (rdb0_ask_Check ask_size ask_Names block_Find L s26 s27 s28 m0 m2)
theorem enb_ask_Check (g_ask_size : Ask → Option (Int)) (g_ask_Names : Ask → Option ((List Int))) (g_block_Find : Conf → Int → Option (Int × Int)) (L : Lp S (Int)) (a0 : Conf) (a1 : Ask) : (runWF (Cb_ask_Check g_ask_size g_ask_Names g_block_Find) (clDF (Cb_ask_Check g_ask_size g_ask_Names g_block_Find) 0) (fun _ => canonL (hdOf (Cb_ask_Check g_ask_size g_ask_Names g_block_Find) hd_ask_Check) L) 42 [i64] (res1 i64) [encV E (Ty.st 1) a0, encV E (Ty.st 2) a1]).opt = ask_Check_eb g_ask_size g_ask_Names g_block_Find (fun s26 s27 s28 m0 m2 => (L (todoOf (Cb_ask_Check g_ask_size g_ask_Names g_block_Find) 42 0) (h0_ask_Check s26 s27 s28 m0 m2)).opt) a0 a1 := by kernel_rfl
theorem en_ask_Check (L : Lp S (Int)) (a0 : Conf) (a1 : Ask) : (runW C_ask_Check (clD C_ask_Check 0) (fun _ => canonL (hdOf C_ask_Check hd_ask_Check) L) 42 [i64] (res1 i64) [encV E (Ty.st 1) a0, encV E (Ty.st 2) a1]).opt = ask_Check_e (fun s26 s27 s28 m0 m2 => (L (todoOf C_ask_Check 42 0) (h0_ask_Check s26 s27 s28 m0 m2)).opt) a0 a1 := (congrArg D.opt (runWF_eq _ _ _ _ _ _ _)).trans (enb_ask_Check ask_size ask_Names block_Find L a0 a1)
theorem fx_ask_Check : ∀ n, (∀ (s26 : (List Int)) (s27 : Int) (s28 : Int) (m0 : Conf) (m2 : (List (Int × Bool))), (Lfix C_ask_Check (clD C_ask_Check 0) (hdOf C_ask_Check hd_ask_Check) (finW C_ask_Check 42 [i64] (res1 i64)) n (todoOf C_ask_Check 42 0) (h0_ask_Check s26 s27 s28 m0 m2)).opt = ask_Check_l0 n s26 s27 s28 m0 m2)
  | 0 => fun _ _ _ _ _ => rfl
  | n + 1 => by
    have ih := fx_ask_Check n
    have e0 : (fun s26 s27 s28 m0 m2 => (Lfix C_ask_Check (clD C_ask_Check 0) (hdOf C_ask_Check hd_ask_Check) (finW C_ask_Check 42 [i64] (res1 i64)) n (todoOf C_ask_Check 42 0) (h0_ask_Check s26 s27 s28 m0 m2)).opt) = ask_Check_l0 n := funext fun s26 => funext fun s27 => funext fun s28 => funext fun m0 => funext fun m2 => ih s26 s27 s28 m0 m2
    exact fun s26 s27 s28 m0 m2 => (congrArg D.opt (Lfix_round C_ask_Check (clD C_ask_Check 0) (hdOf C_ask_Check hd_ask_Check) 42 0 [i64] (res1 i64) n _)).trans ((rd0_ask_Check (Lfix C_ask_Check (clD C_ask_Check 0) (hdOf C_ask_Check hd_ask_Check) (finW C_ask_Check 42 [i64] (res1 i64)) n) s26 s27 s28 m0 m2).trans (congrArg (fun x => ask_Check_s0  x  s26 s27 s28 m0 m2) e0))
theorem ev_ask_Check (n : Nat) (a0 : Conf) (a1 : Ask) : (runF C_ask_Check (clD C_ask_Check 0) (hdOf C_ask_Check hd_ask_Check) 42 [i64] (res1 i64) n [encV E (Ty.st 1) a0, encV E (Ty.st 2) a1]).opt = ask_Check_n n a0 a1 := by
  have ih := fx_ask_Check n
  have e0 : (fun s26 s27 s28 m0 m2 => (Lfix C_ask_Check (clD C_ask_Check 0) (hdOf C_ask_Check hd_ask_Check) (finW C_ask_Check 42 [i64] (res1 i64)) n (todoOf C_ask_Check 42 0) (h0_ask_Check s26 s27 s28 m0 m2)).opt) = ask_Check_l0 n := funext fun s26 => funext fun s27 => funext fun s28 => funext fun m0 => funext fun m2 => ih s26 s27 s28 m0 m2
  exact (congrArg D.opt (runF_eq C_ask_Check (clD C_ask_Check 0) (hdOf C_ask_Check hd_ask_Check) 42 [i64] (res1 i64) n _)).trans ((en_ask_Check (Lfix C_ask_Check (clD C_ask_Check 0) (hdOf C_ask_Check hd_ask_Check) (finW C_ask_Check 42 [i64] (res1 i64)) n) a0 a1).trans (congrArg (fun x => ask_Check_e  x  a0 a1) e0))
theorem ok_ask_Check : SpecOK C_ask_Check 42 sp_ask_Check := by
  have hS := specs_ok (C := C_ask_Check) (l := us_ask_Check) rfl ⟨ok_ask_size.re rfl rfl rfl, ok_ask_Names.re rfl rfl rfl, ok_block_Find.re rfl rfl rfl, trivial⟩
  refine spec_ok (C := C_ask_Check) (cl := (clD C_ask_Check 0)) (hd := (hdOf C_ask_Check hd_ask_Check)) envOK (tyOK_of (l := tab) rfl tabT) hS (clD_ok envOK (tyOK_of (l := tab) rfl tabT) hS mixed (inl_ok (l := []) rfl (by kernel_rfl)) _) mixed (hdOf_ok envOK hd_ask_Check) (by kernel_rfl) [i64] (res1 i64) (de1 (S := S) i64) fun cs r h => ?_
  obtain ⟨a0, a1, rfl, h⟩ := inv2 h
  exact ⟨big, (ev_ask_Check big a0 a1).trans ((def_ask_Check a0 a1).symm.trans h)⟩
-- lodger/grant.Begin
def grant_Begin_b  (a0 : Int) : Option (Oq) := some (⟨⟨1, 0, []⟩, ⟨0, 0, false, [], []⟩, 1, a0, 0, 0, 0, 0, false, [], 0, 0, 0, 0⟩ : Oq)
def sp_grant_Begin : Spec S := { args := [i64], R := Oq, run := run1 i64 grant_Begin, enc := enc1 (S := S) (Ty.st 4) }
def spb_grant_Begin (F : Int → Option (Oq)) : Spec S := { args := [i64], R := Oq, run := run1 i64 F, enc := enc1 (S := S) (Ty.st 4) }
def usb_grant_Begin  : List (Nat × Spec S) := []
def us_grant_Begin : List (Nat × Spec S) := []
noncomputable def Cb_grant_Begin  : Ctx S := { P := Tryd.prog, E := E, ty := tyL tab, G := glL gtab, spec := spL (usb_grant_Begin ), inl := inL [] }
noncomputable def C_grant_Begin : Ctx S := Cb_grant_Begin 
theorem evb_grant_Begin  (L : (St S → D (Oq)) → Lp S (Oq)) (a0 : Int) : (runWF (Cb_grant_Begin ) (clDF (Cb_grant_Begin ) 0) L 93 [(Ty.st 4)] (res1 (Ty.st 4)) [encV E i64 a0]).opt = grant_Begin_b  a0 := by kernel_rfl
theorem ev_grant_Begin (L : (St S → D (Oq)) → Lp S (Oq)) (a0 : Int) : (runW C_grant_Begin (clD C_grant_Begin 0) L 93 [(Ty.st 4)] (res1 (Ty.st 4)) [encV E i64 a0]).opt = grant_Begin a0 := (congrArg D.opt (runWF_eq _ _ L _ _ _ _)).trans (evb_grant_Begin  L a0)
theorem ok_grant_Begin : SpecOK C_grant_Begin 93 sp_grant_Begin := by
  have hS := specs_ok (C := C_grant_Begin) (l := us_grant_Begin) rfl trivial
  refine spec_ok (C := C_grant_Begin) (cl := (clD C_grant_Begin 0)) (hd := (fun _ s => some s)) envOK (tyOK_of (l := tab) rfl tabT) hS (clD_ok envOK (tyOK_of (l := tab) rfl tabT) hS mixed (inl_ok (l := []) rfl (by kernel_rfl)) _) mixed HdOK.id (by kernel_rfl) [(Ty.st 4)] (res1 (Ty.st 4)) (de1 (S := S) (Ty.st 4)) fun cs r h => ?_
  obtain ⟨a0, rfl, h⟩ := inv1 h
  exact ⟨0, (ev_grant_Begin _ a0).trans h⟩
-- lodger/exact.Begin
def exact_Begin_b (g_place_Leaf : Int → Option (Int × Int)) (g_block_Offset : Block → Int → Option (Int × Int)) (a0 : Conf) (a1 : Ask) : Option (Oq) := ((g_block_Offset a0.block a1.addr).bind fun r1 => ((g_place_Leaf r1.1).bind fun r2 => some (⟨a1, ⟨0, 0, false, [], []⟩, 8, 0, 0, r2.1, r2.2, 0, false, [], 0, 0, 0, 0⟩ : Oq)))
def sp_exact_Begin : Spec S := { args := [(Ty.st 1), (Ty.st 2)], R := Oq, run := run2 (Ty.st 1) (Ty.st 2) exact_Begin, enc := enc1 (S := S) (Ty.st 4) }
def spb_exact_Begin (F : Conf → Ask → Option (Oq)) : Spec S := { args := [(Ty.st 1), (Ty.st 2)], R := Oq, run := run2 (Ty.st 1) (Ty.st 2) F, enc := enc1 (S := S) (Ty.st 4) }
def usb_exact_Begin (g_place_Leaf : Int → Option (Int × Int)) (g_block_Offset : Block → Int → Option (Int × Int)) : List (Nat × Spec S) := [(60, spb_place_Leaf g_place_Leaf), (70, spb_block_Offset g_block_Offset)]
def us_exact_Begin : List (Nat × Spec S) := [(60, sp_place_Leaf), (70, sp_block_Offset)]
noncomputable def Cb_exact_Begin (g_place_Leaf : Int → Option (Int × Int)) (g_block_Offset : Block → Int → Option (Int × Int)) : Ctx S := { P := Tryd.prog, E := E, ty := tyL tab, G := glL gtab, spec := spL (usb_exact_Begin g_place_Leaf g_block_Offset), inl := inL [] }
noncomputable def C_exact_Begin : Ctx S := Cb_exact_Begin place_Leaf block_Offset
theorem evb_exact_Begin (g_place_Leaf : Int → Option (Int × Int)) (g_block_Offset : Block → Int → Option (Int × Int)) (L : (St S → D (Oq)) → Lp S (Oq)) (a0 : Conf) (a1 : Ask) : (runWF (Cb_exact_Begin g_place_Leaf g_block_Offset) (clDF (Cb_exact_Begin g_place_Leaf g_block_Offset) 0) L 98 [(Ty.st 4)] (res1 (Ty.st 4)) [encV E (Ty.st 1) a0, encV E (Ty.st 2) a1]).opt = exact_Begin_b g_place_Leaf g_block_Offset a0 a1 := by kernel_rfl
theorem ev_exact_Begin (L : (St S → D (Oq)) → Lp S (Oq)) (a0 : Conf) (a1 : Ask) : (runW C_exact_Begin (clD C_exact_Begin 0) L 98 [(Ty.st 4)] (res1 (Ty.st 4)) [encV E (Ty.st 1) a0, encV E (Ty.st 2) a1]).opt = exact_Begin a0 a1 := (congrArg D.opt (runWF_eq _ _ L _ _ _ _)).trans (evb_exact_Begin place_Leaf block_Offset L a0 a1)
theorem ok_exact_Begin : SpecOK C_exact_Begin 98 sp_exact_Begin := by
  have hS := specs_ok (C := C_exact_Begin) (l := us_exact_Begin) rfl ⟨ok_place_Leaf.re rfl rfl rfl, ok_block_Offset.re rfl rfl rfl, trivial⟩
  refine spec_ok (C := C_exact_Begin) (cl := (clD C_exact_Begin 0)) (hd := (fun _ s => some s)) envOK (tyOK_of (l := tab) rfl tabT) hS (clD_ok envOK (tyOK_of (l := tab) rfl tabT) hS mixed (inl_ok (l := []) rfl (by kernel_rfl)) _) mixed HdOK.id (by kernel_rfl) [(Ty.st 4)] (res1 (Ty.st 4)) (de1 (S := S) (Ty.st 4)) fun cs r h => ?_
  obtain ⟨a0, a1, rfl, h⟩ := inv2 h
  exact ⟨0, (ev_exact_Begin _ a0 a1).trans h⟩
-- lodger/batch.Begin
def batch_Begin_b (g_place_Leaf : Int → Option (Int × Int)) (g_block_Offset : Block → Int → Option (Int × Int)) (a0 : Conf) (a1 : Ask) : Option (Oq) := (bif (a1.kind == 4) then ((geti a1.addrs 0).bind fun x1 => ((g_block_Offset a0.block x1).bind fun r2 => ((g_place_Leaf r2.1).bind fun r3 => some (⟨a1, ⟨0, 0, false, [], []⟩, 8, 0, 0, r3.1, r3.2, 0, false, [], 0, 0, 0, 0⟩ : Oq)))) else ((g_block_Offset a0.block a1.addr).bind fun r4 => ((g_place_Leaf r4.1).bind fun r5 => some (⟨a1, ⟨0, 0, false, [], []⟩, 8, 0, 0, r5.1, r5.2, 0, false, [], 0, 0, 0, 0⟩ : Oq))))
def sp_batch_Begin : Spec S := { args := [(Ty.st 1), (Ty.st 2)], R := Oq, run := run2 (Ty.st 1) (Ty.st 2) batch_Begin, enc := enc1 (S := S) (Ty.st 4) }
def spb_batch_Begin (F : Conf → Ask → Option (Oq)) : Spec S := { args := [(Ty.st 1), (Ty.st 2)], R := Oq, run := run2 (Ty.st 1) (Ty.st 2) F, enc := enc1 (S := S) (Ty.st 4) }
def usb_batch_Begin (g_place_Leaf : Int → Option (Int × Int)) (g_block_Offset : Block → Int → Option (Int × Int)) : List (Nat × Spec S) := [(60, spb_place_Leaf g_place_Leaf), (70, spb_block_Offset g_block_Offset)]
def us_batch_Begin : List (Nat × Spec S) := [(60, sp_place_Leaf), (70, sp_block_Offset)]
noncomputable def Cb_batch_Begin (g_place_Leaf : Int → Option (Int × Int)) (g_block_Offset : Block → Int → Option (Int × Int)) : Ctx S := { P := Tryd.prog, E := E, ty := tyL tab, G := glL gtab, spec := spL (usb_batch_Begin g_place_Leaf g_block_Offset), inl := inL [] }
noncomputable def C_batch_Begin : Ctx S := Cb_batch_Begin place_Leaf block_Offset
theorem evb_batch_Begin (g_place_Leaf : Int → Option (Int × Int)) (g_block_Offset : Block → Int → Option (Int × Int)) (L : (St S → D (Oq)) → Lp S (Oq)) (a0 : Conf) (a1 : Ask) : (runWF (Cb_batch_Begin g_place_Leaf g_block_Offset) (clDF (Cb_batch_Begin g_place_Leaf g_block_Offset) 0) L 121 [(Ty.st 4)] (res1 (Ty.st 4)) [encV E (Ty.st 1) a0, encV E (Ty.st 2) a1]).opt = batch_Begin_b g_place_Leaf g_block_Offset a0 a1 := by kernel_rfl
theorem ev_batch_Begin (L : (St S → D (Oq)) → Lp S (Oq)) (a0 : Conf) (a1 : Ask) : (runW C_batch_Begin (clD C_batch_Begin 0) L 121 [(Ty.st 4)] (res1 (Ty.st 4)) [encV E (Ty.st 1) a0, encV E (Ty.st 2) a1]).opt = batch_Begin a0 a1 := (congrArg D.opt (runWF_eq _ _ L _ _ _ _)).trans (evb_batch_Begin place_Leaf block_Offset L a0 a1)
theorem ok_batch_Begin : SpecOK C_batch_Begin 121 sp_batch_Begin := by
  have hS := specs_ok (C := C_batch_Begin) (l := us_batch_Begin) rfl ⟨ok_place_Leaf.re rfl rfl rfl, ok_block_Offset.re rfl rfl rfl, trivial⟩
  refine spec_ok (C := C_batch_Begin) (cl := (clD C_batch_Begin 0)) (hd := (fun _ s => some s)) envOK (tyOK_of (l := tab) rfl tabT) hS (clD_ok envOK (tyOK_of (l := tab) rfl tabT) hS mixed (inl_ok (l := []) rfl (by kernel_rfl)) _) mixed HdOK.id (by kernel_rfl) [(Ty.st 4)] (res1 (Ty.st 4)) (de1 (S := S) (Ty.st 4)) fun cs r h => ?_
  obtain ⟨a0, a1, rfl, h⟩ := inv2 h
  exact ⟨0, (ev_batch_Begin _ a0 a1).trans h⟩
-- lodger/sweep.Begin
def sweep_Begin_b  (a0 : Oq) : Option (Oq) := some ({ a0 with phase := 6, seen := [], at_ := 0 } : Oq)
def sp_sweep_Begin : Spec S := { args := [(Ty.st 4)], R := Oq, run := run1 (Ty.st 4) sweep_Begin, enc := enc1 (S := S) (Ty.st 4) }
def spb_sweep_Begin (F : Oq → Option (Oq)) : Spec S := { args := [(Ty.st 4)], R := Oq, run := run1 (Ty.st 4) F, enc := enc1 (S := S) (Ty.st 4) }
def usb_sweep_Begin  : List (Nat × Spec S) := []
def us_sweep_Begin : List (Nat × Spec S) := []
noncomputable def Cb_sweep_Begin  : Ctx S := { P := Tryd.prog, E := E, ty := tyL tab, G := glL gtab, spec := spL (usb_sweep_Begin ), inl := inL [] }
noncomputable def C_sweep_Begin : Ctx S := Cb_sweep_Begin 
theorem evb_sweep_Begin  (L : (St S → D (Oq)) → Lp S (Oq)) (a0 : Oq) : (runWF (Cb_sweep_Begin ) (clDF (Cb_sweep_Begin ) 0) L 128 [(Ty.st 4)] (res1 (Ty.st 4)) [encV E (Ty.st 4) a0]).opt = sweep_Begin_b  a0 := by kernel_rfl
theorem ev_sweep_Begin (L : (St S → D (Oq)) → Lp S (Oq)) (a0 : Oq) : (runW C_sweep_Begin (clD C_sweep_Begin 0) L 128 [(Ty.st 4)] (res1 (Ty.st 4)) [encV E (Ty.st 4) a0]).opt = sweep_Begin a0 := (congrArg D.opt (runWF_eq _ _ L _ _ _ _)).trans (evb_sweep_Begin  L a0)
theorem ok_sweep_Begin : SpecOK C_sweep_Begin 128 sp_sweep_Begin := by
  have hS := specs_ok (C := C_sweep_Begin) (l := us_sweep_Begin) rfl trivial
  refine spec_ok (C := C_sweep_Begin) (cl := (clD C_sweep_Begin 0)) (hd := (fun _ s => some s)) envOK (tyOK_of (l := tab) rfl tabT) hS (clD_ok envOK (tyOK_of (l := tab) rfl tabT) hS mixed (inl_ok (l := []) rfl (by kernel_rfl)) _) mixed HdOK.id (by kernel_rfl) [(Ty.st 4)] (res1 (Ty.st 4)) (de1 (S := S) (Ty.st 4)) fun cs r h => ?_
  obtain ⟨a0, rfl, h⟩ := inv1 h
  exact ⟨0, (ev_sweep_Begin _ a0).trans h⟩
-- lodger/snap.Begin
def snap_Begin_b (g_sweep_Begin : Oq → Option (Oq))  : Option (Oq) := ((g_sweep_Begin (⟨⟨6, 0, []⟩, ⟨0, 0, false, [], []⟩, 0, 0, 0, 0, 0, 0, false, [], 0, 0, 0, 0⟩ : Oq)).bind fun r1 => some r1)
def sp_snap_Begin : Spec S := { args := [], R := Oq, run := run0  snap_Begin, enc := enc1 (S := S) (Ty.st 4) }
def spb_snap_Begin (F : Option (Oq)) : Spec S := { args := [], R := Oq, run := run0  F, enc := enc1 (S := S) (Ty.st 4) }
def usb_snap_Begin (g_sweep_Begin : Oq → Option (Oq)) : List (Nat × Spec S) := [(128, spb_sweep_Begin g_sweep_Begin)]
def us_snap_Begin : List (Nat × Spec S) := [(128, sp_sweep_Begin)]
noncomputable def Cb_snap_Begin (g_sweep_Begin : Oq → Option (Oq)) : Ctx S := { P := Tryd.prog, E := E, ty := tyL tab, G := glL gtab, spec := spL (usb_snap_Begin g_sweep_Begin), inl := inL [] }
noncomputable def C_snap_Begin : Ctx S := Cb_snap_Begin sweep_Begin
theorem evb_snap_Begin (g_sweep_Begin : Oq → Option (Oq)) (L : (St S → D (Oq)) → Lp S (Oq))  : (runWF (Cb_snap_Begin g_sweep_Begin) (clDF (Cb_snap_Begin g_sweep_Begin) 0) L 126 [(Ty.st 4)] (res1 (Ty.st 4)) []).opt = snap_Begin_b g_sweep_Begin  := by kernel_rfl
theorem ev_snap_Begin (L : (St S → D (Oq)) → Lp S (Oq))  : (runW C_snap_Begin (clD C_snap_Begin 0) L 126 [(Ty.st 4)] (res1 (Ty.st 4)) []).opt = snap_Begin  := (congrArg D.opt (runWF_eq _ _ L _ _ _ _)).trans (evb_snap_Begin sweep_Begin L )
theorem ok_snap_Begin : SpecOK C_snap_Begin 126 sp_snap_Begin := by
  have hS := specs_ok (C := C_snap_Begin) (l := us_snap_Begin) rfl ⟨ok_sweep_Begin.re rfl rfl rfl, trivial⟩
  refine spec_ok (C := C_snap_Begin) (cl := (clD C_snap_Begin 0)) (hd := (fun _ s => some s)) envOK (tyOK_of (l := tab) rfl tabT) hS (clD_ok envOK (tyOK_of (l := tab) rfl tabT) hS mixed (inl_ok (l := []) rfl (by kernel_rfl)) _) mixed HdOK.id (by kernel_rfl) [(Ty.st 4)] (res1 (Ty.st 4)) (de1 (S := S) (Ty.st 4)) fun cs r h => ?_
  exact run0_ev0 (F := snap_Begin) ev_snap_Begin h
-- lodger/pool.Begin
def pool_Begin_b (g_ask_Check : Conf → Ask → Option (Int)) (g_grant_Begin : Int → Option (Oq)) (g_exact_Begin : Conf → Ask → Option (Oq)) (g_batch_Begin : Conf → Ask → Option (Oq)) (g_snap_Begin : Option (Oq)) (a0 : Conf) (a1 : Int) (a2 : Ask) : Option (Oq × Bool) := (bif (ieq a2.kind 1) then ((g_ask_Check a0 a2).bind fun r1 => (bif (not (r1 == 0)) then ((g_ask_Check a0 a2).bind fun r2 => some ((⟨a2, ⟨r2, 0, false, [], []⟩, 0, 0, 0, 0, 0, 0, false, [], 0, 0, 0, 0⟩ : Oq), true)) else ((g_grant_Begin a1).bind fun r3 => some (({ r3 with ask := a2 } : Oq), false)))) else (bif (ieq a2.kind 2) then ((g_ask_Check a0 a2).bind fun r4 => (bif (not (r4 == 0)) then ((g_ask_Check a0 a2).bind fun r5 => some ((⟨a2, ⟨r5, 0, false, [], []⟩, 0, 0, 0, 0, 0, 0, false, [], 0, 0, 0, 0⟩ : Oq), true)) else ((g_exact_Begin a0 a2).bind fun r6 => some (r6, false)))) else (bif (ieq a2.kind 3) then ((g_ask_Check a0 a2).bind fun r7 => (bif (not (r7 == 0)) then ((g_ask_Check a0 a2).bind fun r8 => some ((⟨a2, ⟨r8, 0, false, [], []⟩, 0, 0, 0, 0, 0, 0, false, [], 0, 0, 0, 0⟩ : Oq), true)) else ((g_batch_Begin a0 a2).bind fun r9 => some (r9, false)))) else (bif (ieq a2.kind 4) then ((g_ask_Check a0 a2).bind fun r10 => (bif (not (r10 == 0)) then ((g_ask_Check a0 a2).bind fun r11 => some ((⟨a2, ⟨r11, 0, false, [], []⟩, 0, 0, 0, 0, 0, 0, false, [], 0, 0, 0, 0⟩ : Oq), true)) else ((g_batch_Begin a0 a2).bind fun r12 => some (r12, false)))) else (bif (ieq a2.kind 5) then ((g_ask_Check a0 a2).bind fun r13 => (bif (not (r13 == 0)) then ((g_ask_Check a0 a2).bind fun r14 => some ((⟨a2, ⟨r14, 0, false, [], []⟩, 0, 0, 0, 0, 0, 0, false, [], 0, 0, 0, 0⟩ : Oq), true)) else ((g_exact_Begin a0 a2).bind fun r15 => some (r15, false)))) else (bif (ieq a2.kind 6) then ((g_ask_Check a0 a2).bind fun r16 => (bif (not (r16 == 0)) then ((g_ask_Check a0 a2).bind fun r17 => some ((⟨a2, ⟨r17, 0, false, [], []⟩, 0, 0, 0, 0, 0, 0, false, [], 0, 0, 0, 0⟩ : Oq), true)) else (g_snap_Begin.bind fun r18 => some (({ r18 with ask := a2 } : Oq), false)))) else ((g_ask_Check a0 a2).bind fun r19 => some ((⟨a2, ⟨r19, 0, false, [], []⟩, 0, 0, 0, 0, 0, 0, false, [], 0, 0, 0, 0⟩ : Oq), true))))))))
def sp_pool_Begin : Spec S := { args := [(Ty.st 1), i64, (Ty.st 2)], R := Oq × Bool, run := run3 (Ty.st 1) i64 (Ty.st 2) pool_Begin, enc := enc2 (S := S) (Ty.st 4) Ty.bool }
def spb_pool_Begin (F : Conf → Int → Ask → Option (Oq × Bool)) : Spec S := { args := [(Ty.st 1), i64, (Ty.st 2)], R := Oq × Bool, run := run3 (Ty.st 1) i64 (Ty.st 2) F, enc := enc2 (S := S) (Ty.st 4) Ty.bool }
def usb_pool_Begin (g_ask_Check : Conf → Ask → Option (Int)) (g_grant_Begin : Int → Option (Oq)) (g_exact_Begin : Conf → Ask → Option (Oq)) (g_batch_Begin : Conf → Ask → Option (Oq)) (g_snap_Begin : Option (Oq)) : List (Nat × Spec S) := [(42, spb_ask_Check g_ask_Check), (93, spb_grant_Begin g_grant_Begin), (98, spb_exact_Begin g_exact_Begin), (121, spb_batch_Begin g_batch_Begin), (126, spb_snap_Begin g_snap_Begin)]
def us_pool_Begin : List (Nat × Spec S) := [(42, sp_ask_Check), (93, sp_grant_Begin), (98, sp_exact_Begin), (121, sp_batch_Begin), (126, sp_snap_Begin)]
noncomputable def Cb_pool_Begin (g_ask_Check : Conf → Ask → Option (Int)) (g_grant_Begin : Int → Option (Oq)) (g_exact_Begin : Conf → Ask → Option (Oq)) (g_batch_Begin : Conf → Ask → Option (Oq)) (g_snap_Begin : Option (Oq)) : Ctx S := { P := Tryd.prog, E := E, ty := tyL tab, G := glL gtab, spec := spL (usb_pool_Begin g_ask_Check g_grant_Begin g_exact_Begin g_batch_Begin g_snap_Begin), inl := inL [41, 90, 95, 118, 123] }
noncomputable def C_pool_Begin : Ctx S := Cb_pool_Begin ask_Check grant_Begin exact_Begin batch_Begin snap_Begin
theorem evb_pool_Begin (g_ask_Check : Conf → Ask → Option (Int)) (g_grant_Begin : Int → Option (Oq)) (g_exact_Begin : Conf → Ask → Option (Oq)) (g_batch_Begin : Conf → Ask → Option (Oq)) (g_snap_Begin : Option (Oq)) (L : (St S → D (Oq × Bool)) → Lp S (Oq × Bool)) (a0 : Conf) (a1 : Int) (a2 : Ask) : (runWF (Cb_pool_Begin g_ask_Check g_grant_Begin g_exact_Begin g_batch_Begin g_snap_Begin) (clDF (Cb_pool_Begin g_ask_Check g_grant_Begin g_exact_Begin g_batch_Begin g_snap_Begin) 3) L 12 [(Ty.st 4), Ty.bool] (res2 (Ty.st 4) Ty.bool) [encV E (Ty.st 1) a0, encV E i64 a1, encV E (Ty.st 2) a2]).opt = pool_Begin_b g_ask_Check g_grant_Begin g_exact_Begin g_batch_Begin g_snap_Begin a0 a1 a2 := by kernel_rfl
theorem ev_pool_Begin (L : (St S → D (Oq × Bool)) → Lp S (Oq × Bool)) (a0 : Conf) (a1 : Int) (a2 : Ask) : (runW C_pool_Begin (clD C_pool_Begin 3) L 12 [(Ty.st 4), Ty.bool] (res2 (Ty.st 4) Ty.bool) [encV E (Ty.st 1) a0, encV E i64 a1, encV E (Ty.st 2) a2]).opt = pool_Begin a0 a1 a2 := (congrArg D.opt (runWF_eq _ _ L _ _ _ _)).trans (evb_pool_Begin ask_Check grant_Begin exact_Begin batch_Begin snap_Begin L a0 a1 a2)
attribute [local irreducible] snap_Begin
theorem ok_pool_Begin : SpecOK C_pool_Begin 12 sp_pool_Begin := by
  have hS := specs_ok (C := C_pool_Begin) (l := us_pool_Begin) rfl ⟨ok_ask_Check.re rfl rfl rfl, ok_grant_Begin.re rfl rfl rfl, ok_exact_Begin.re rfl rfl rfl, ok_batch_Begin.re rfl rfl rfl, ok_snap_Begin.re rfl rfl rfl, trivial⟩
  refine spec_ok (C := C_pool_Begin) (cl := (clD C_pool_Begin 3)) (hd := (fun _ s => some s)) envOK (tyOK_of (l := tab) rfl tabT) hS (clD_ok envOK (tyOK_of (l := tab) rfl tabT) hS mixed (inl_ok (l := [41, 90, 95, 118, 123]) rfl (by kernel_rfl)) _) mixed HdOK.id (by kernel_rfl) [(Ty.st 4), Ty.bool] (res2 (Ty.st 4) Ty.bool) (de2 (S := S) (Ty.st 4) Ty.bool) fun cs r h => ?_
  obtain ⟨a0, a1, a2, rfl, h⟩ := inv3 h
  exact ⟨0, (ev_pool_Begin _ a0 a1 a2).trans h⟩
-- lodger/pool.Told
def pool_Told_b  (a0 : Oq) : Option (Answer) := (bif (a0.ask.kind == 4) then (bif (decide ((List.length a0.answer.errs : Int) > 0)) then ((geti a0.answer.errs (IntKind.wrap .i64 ((List.length a0.answer.errs : Int) - 1))).bind fun x1 => some (⟨x1, 0, false, [], []⟩ : Answer)) else some a0.answer) else some a0.answer)
def sp_pool_Told : Spec S := { args := [(Ty.st 4)], R := Answer, run := run1 (Ty.st 4) pool_Told, enc := enc1 (S := S) (Ty.st 3) }
def spb_pool_Told (F : Oq → Option (Answer)) : Spec S := { args := [(Ty.st 4)], R := Answer, run := run1 (Ty.st 4) F, enc := enc1 (S := S) (Ty.st 3) }
def usb_pool_Told  : List (Nat × Spec S) := []
def us_pool_Told : List (Nat × Spec S) := []
noncomputable def Cb_pool_Told  : Ctx S := { P := Tryd.prog, E := E, ty := tyL tab, G := glL gtab, spec := spL (usb_pool_Told ), inl := inL [] }
noncomputable def C_pool_Told : Ctx S := Cb_pool_Told 
theorem evb_pool_Told  (L : (St S → D (Answer)) → Lp S (Answer)) (a0 : Oq) : (runWF (Cb_pool_Told ) (clDF (Cb_pool_Told ) 0) L 15 [(Ty.st 3)] (res1 (Ty.st 3)) [encV E (Ty.st 4) a0]).opt = pool_Told_b  a0 := by kernel_rfl
theorem ev_pool_Told (L : (St S → D (Answer)) → Lp S (Answer)) (a0 : Oq) : (runW C_pool_Told (clD C_pool_Told 0) L 15 [(Ty.st 3)] (res1 (Ty.st 3)) [encV E (Ty.st 4) a0]).opt = pool_Told a0 := (congrArg D.opt (runWF_eq _ _ L _ _ _ _)).trans (evb_pool_Told  L a0)
theorem ok_pool_Told : SpecOK C_pool_Told 15 sp_pool_Told := by
  have hS := specs_ok (C := C_pool_Told) (l := us_pool_Told) rfl trivial
  refine spec_ok (C := C_pool_Told) (cl := (clD C_pool_Told 0)) (hd := (fun _ s => some s)) envOK (tyOK_of (l := tab) rfl tabT) hS (clD_ok envOK (tyOK_of (l := tab) rfl tabT) hS mixed (inl_ok (l := []) rfl (by kernel_rfl)) _) mixed HdOK.id (by kernel_rfl) [(Ty.st 3)] (res1 (Ty.st 3)) (de1 (S := S) (Ty.st 3)) fun cs r h => ?_
  obtain ⟨a0, rfl, h⟩ := inv1 h
  exact ⟨0, (ev_pool_Told _ a0).trans h⟩
-- lodger/pool.Step
def pool_Step_b  (a0 : Conf) (a1 : (List Int)) (a2 : Oq) : Option ((List Int) × Oq × Bool) := (bif (a2.phase == 0) then some (a1, a2, false) else (bif (ieq a2.ask.kind 1) then none else (bif (ieq a2.ask.kind 2) then none else (bif (ieq a2.ask.kind 3) then none else (bif (ieq a2.ask.kind 4) then none else (bif (ieq a2.ask.kind 5) then none else (bif (ieq a2.ask.kind 6) then none else none)))))))
def sp_pool_Step : Spec S := { args := [(Ty.st 1), (Ty.slice u64), (Ty.st 4)], R := (List Int) × Oq × Bool, run := run3 (Ty.st 1) (Ty.slice u64) (Ty.st 4) pool_Step, enc := enc3 (S := S) (Ty.slice u64) (Ty.st 4) Ty.bool }
def spb_pool_Step (F : Conf → (List Int) → Oq → Option ((List Int) × Oq × Bool)) : Spec S := { args := [(Ty.st 1), (Ty.slice u64), (Ty.st 4)], R := (List Int) × Oq × Bool, run := run3 (Ty.st 1) (Ty.slice u64) (Ty.st 4) F, enc := enc3 (S := S) (Ty.slice u64) (Ty.st 4) Ty.bool }
def usb_pool_Step  : List (Nat × Spec S) := []
def us_pool_Step : List (Nat × Spec S) := []
noncomputable def Cb_pool_Step  : Ctx S := { P := Tryd.prog, E := E, ty := tyL tab, G := glL gtab, spec := spL (usb_pool_Step ), inl := inL [92, 97, 120, 125] }
noncomputable def C_pool_Step : Ctx S := Cb_pool_Step 
theorem evb_pool_Step  (L : (St S → D ((List Int) × Oq × Bool)) → Lp S ((List Int) × Oq × Bool)) (a0 : Conf) (a1 : (List Int)) (a2 : Oq) : (runWF (Cb_pool_Step ) (clDF (Cb_pool_Step ) 3) L 16 [(Ty.slice u64), (Ty.st 4), Ty.bool] (res3 (Ty.slice u64) (Ty.st 4) Ty.bool) [encV E (Ty.st 1) a0, encV E (Ty.slice u64) a1, encV E (Ty.st 4) a2]).opt = pool_Step_b  a0 a1 a2 := by kernel_rfl
theorem ev_pool_Step (L : (St S → D ((List Int) × Oq × Bool)) → Lp S ((List Int) × Oq × Bool)) (a0 : Conf) (a1 : (List Int)) (a2 : Oq) : (runW C_pool_Step (clD C_pool_Step 3) L 16 [(Ty.slice u64), (Ty.st 4), Ty.bool] (res3 (Ty.slice u64) (Ty.st 4) Ty.bool) [encV E (Ty.st 1) a0, encV E (Ty.slice u64) a1, encV E (Ty.st 4) a2]).opt = pool_Step a0 a1 a2 := (congrArg D.opt (runWF_eq _ _ L _ _ _ _)).trans (evb_pool_Step  L a0 a1 a2)
theorem ok_pool_Step : SpecOK C_pool_Step 16 sp_pool_Step := by
  have hS := specs_ok (C := C_pool_Step) (l := us_pool_Step) rfl trivial
  refine spec_ok (C := C_pool_Step) (cl := (clD C_pool_Step 3)) (hd := (fun _ s => some s)) envOK (tyOK_of (l := tab) rfl tabT) hS (clD_ok envOK (tyOK_of (l := tab) rfl tabT) hS mixed (inl_ok (l := [92, 97, 120, 125]) rfl (by kernel_rfl)) _) mixed HdOK.id (by kernel_rfl) [(Ty.slice u64), (Ty.st 4), Ty.bool] (res3 (Ty.slice u64) (Ty.st 4) Ty.bool) (de3 (S := S) (Ty.slice u64) (Ty.st 4) Ty.bool) fun cs r h => ?_
  obtain ⟨a0, a1, a2, rfl, h⟩ := inv3 h
  exact ⟨0, (ev_pool_Step _ a0 a1 a2).trans h⟩
-- lodger/pool.Most
def pool_Most_b (g_block_Many : Block → Option (Int)) (g_place_Tops : Int → Option (Int)) (g_place_Leaves : Int → Option (Int)) (g_ask_Check : Conf → Ask → Option (Int)) (g_ask_Names : Ask → Option ((List Int))) (a0 : Conf) (a1 : Ask) : Option (Int) := (bif (ieq a1.kind 1) then ((g_ask_Check a0 a1).bind fun r1 => (bif (r1 == 0) then ((g_block_Many a0.block).bind fun r2 => ((g_place_Tops r2).bind fun r3 => ((g_place_Leaves r2).bind fun r4 => some (IntKind.wrap .i64 ((IntKind.wrap .i64 ((IntKind.wrap .i64 (a0.shards * (IntKind.wrap .i64 (r3 + 3)))) + (IntKind.wrap .i64 (2 * r4)))) + 6))))) else some 0)) else (bif (ieq a1.kind 2) then ((g_ask_Check a0 a1).bind fun r5 => (bif (r5 == 0) then some 6 else some 0)) else (bif (ieq a1.kind 3) then ((g_ask_Check a0 a1).bind fun r6 => (bif (r6 == 0) then ((g_ask_Names a1).bind fun r7 => some (IntKind.wrap .i64 (6 * (List.length r7 : Int)))) else some 0)) else (bif (ieq a1.kind 4) then ((g_ask_Check a0 a1).bind fun r8 => (bif (r8 == 0) then ((g_ask_Names a1).bind fun r9 => some (IntKind.wrap .i64 (6 * (List.length r9 : Int)))) else some 0)) else (bif (ieq a1.kind 5) then ((g_ask_Check a0 a1).bind fun r10 => (bif (r10 == 0) then some 6 else some 0)) else (bif (ieq a1.kind 6) then ((g_ask_Check a0 a1).bind fun r11 => (bif (r11 == 0) then ((g_block_Many a0.block).bind fun r12 => ((g_place_Leaves r12).bind fun r13 => some (IntKind.wrap .i64 ((IntKind.wrap .i64 (a0.tries * 2)) * r13)))) else some 0)) else some 0))))))
def sp_pool_Most : Spec S := { args := [(Ty.st 1), (Ty.st 2)], R := Int, run := run2 (Ty.st 1) (Ty.st 2) pool_Most, enc := enc1 (S := S) i64 }
def spb_pool_Most (F : Conf → Ask → Option (Int)) : Spec S := { args := [(Ty.st 1), (Ty.st 2)], R := Int, run := run2 (Ty.st 1) (Ty.st 2) F, enc := enc1 (S := S) i64 }
def usb_pool_Most (g_block_Many : Block → Option (Int)) (g_place_Tops : Int → Option (Int)) (g_place_Leaves : Int → Option (Int)) (g_ask_Check : Conf → Ask → Option (Int)) (g_ask_Names : Ask → Option ((List Int))) : List (Nat × Spec S) := [(25, spb_block_Many g_block_Many), (27, spb_place_Tops g_place_Tops), (29, spb_place_Leaves g_place_Leaves), (42, spb_ask_Check g_ask_Check), (67, spb_ask_Names g_ask_Names)]
def us_pool_Most : List (Nat × Spec S) := [(25, sp_block_Many), (27, sp_place_Tops), (29, sp_place_Leaves), (42, sp_ask_Check), (67, sp_ask_Names)]
noncomputable def Cb_pool_Most (g_block_Many : Block → Option (Int)) (g_place_Tops : Int → Option (Int)) (g_place_Leaves : Int → Option (Int)) (g_ask_Check : Conf → Ask → Option (Int)) (g_ask_Names : Ask → Option ((List Int))) : Ctx S := { P := Tryd.prog, E := E, ty := tyL tab, G := glL gtab, spec := spL (usb_pool_Most g_block_Many g_place_Tops g_place_Leaves g_ask_Check g_ask_Names), inl := inL [41, 91, 96, 119, 124] }
noncomputable def C_pool_Most : Ctx S := Cb_pool_Most block_Many place_Tops place_Leaves ask_Check ask_Names
theorem evb_pool_Most (g_block_Many : Block → Option (Int)) (g_place_Tops : Int → Option (Int)) (g_place_Leaves : Int → Option (Int)) (g_ask_Check : Conf → Ask → Option (Int)) (g_ask_Names : Ask → Option ((List Int))) (L : (St S → D (Int)) → Lp S (Int)) (a0 : Conf) (a1 : Ask) : (runWF (Cb_pool_Most g_block_Many g_place_Tops g_place_Leaves g_ask_Check g_ask_Names) (clDF (Cb_pool_Most g_block_Many g_place_Tops g_place_Leaves g_ask_Check g_ask_Names) 3) L 19 [i64] (res1 i64) [encV E (Ty.st 1) a0, encV E (Ty.st 2) a1]).opt = pool_Most_b g_block_Many g_place_Tops g_place_Leaves g_ask_Check g_ask_Names a0 a1 := by kernel_rfl
theorem ev_pool_Most (L : (St S → D (Int)) → Lp S (Int)) (a0 : Conf) (a1 : Ask) : (runW C_pool_Most (clD C_pool_Most 3) L 19 [i64] (res1 i64) [encV E (Ty.st 1) a0, encV E (Ty.st 2) a1]).opt = pool_Most a0 a1 := (congrArg D.opt (runWF_eq _ _ L _ _ _ _)).trans (evb_pool_Most block_Many place_Tops place_Leaves ask_Check ask_Names L a0 a1)
theorem ok_pool_Most : SpecOK C_pool_Most 19 sp_pool_Most := by
  have hS := specs_ok (C := C_pool_Most) (l := us_pool_Most) rfl ⟨ok_block_Many.re rfl rfl rfl, ok_place_Tops.re rfl rfl rfl, ok_place_Leaves.re rfl rfl rfl, ok_ask_Check.re rfl rfl rfl, ok_ask_Names.re rfl rfl rfl, trivial⟩
  refine spec_ok (C := C_pool_Most) (cl := (clD C_pool_Most 3)) (hd := (fun _ s => some s)) envOK (tyOK_of (l := tab) rfl tabT) hS (clD_ok envOK (tyOK_of (l := tab) rfl tabT) hS mixed (inl_ok (l := [41, 91, 96, 119, 124]) rfl (by kernel_rfl)) _) mixed HdOK.id (by kernel_rfl) [i64] (res1 i64) (de1 (S := S) i64) fun cs r h => ?_
  obtain ⟨a0, a1, rfl, h⟩ := inv2 h
  exact ⟨0, (ev_pool_Most _ a0 a1).trans h⟩
-- lodger/lodgerref08.Addrs
def lodgerref08_Addrs_s0b  (k0 : (List Int) → (List Int) → Int → Option (Bool)) (s0 : (List Int)) (s1 : (List Int)) (s5 : Int) : Option (Bool) := (bif (decide (s5 < (List.length s0 : Int))) then ((geti s0 s5).bind fun x1 => ((geti s1 s5).bind fun x2 => (bif (x1 != x2) then some false else k0 s0 s1 (IntKind.wrap .i64 (s5 + 1))))) else some true)
def lodgerref08_Addrs_eb  (k0 : (List Int) → (List Int) → Int → Option (Bool)) (a0 : (List Int)) (a1 : (List Int)) : Option (Bool) := (bif ((List.length a0 : Int) != (List.length a1 : Int)) then some false else k0 a0 a1 0)
def sp_lodgerref08_Addrs : Spec S := { args := [(Ty.slice u32), (Ty.slice u32)], R := Bool, run := run2 (Ty.slice u32) (Ty.slice u32) lodgerref08_Addrs, enc := enc1 (S := S) Ty.bool }
def spb_lodgerref08_Addrs (F : (List Int) → (List Int) → Option (Bool)) : Spec S := { args := [(Ty.slice u32), (Ty.slice u32)], R := Bool, run := run2 (Ty.slice u32) (Ty.slice u32) F, enc := enc1 (S := S) Ty.bool }
def usb_lodgerref08_Addrs  : List (Nat × Spec S) := []
def us_lodgerref08_Addrs : List (Nat × Spec S) := []
noncomputable def Cb_lodgerref08_Addrs  : Ctx S := { P := Tryd.prog, E := E, ty := tyL tab, G := glL gtab, spec := spL (usb_lodgerref08_Addrs ), inl := inL [] }
noncomputable def C_lodgerref08_Addrs : Ctx S := Cb_lodgerref08_Addrs 
def hd_lodgerref08_Addrs : List ((Nat × Nat) × List Hs) := [((2, 4), [.canon 0 [] [0, 1, 5], .plain 0 (Ty.slice u32), .plain 1 (Ty.slice u32), .plain 5 i64])]
def h0_lodgerref08_Addrs (s0 : (List Int)) (s1 : (List Int)) (s5 : Int) : St S := { tmps := [.cell (Ty.slice u32) s0, .cell (Ty.slice u32) s1, .undef, .undef, .undef, .cell i64 s5, .undef, .undef, .undef, .undef, .undef, .undef, .undef, .undef, .undef, .undef, .undef, .undef, .undef, .undef, .undef, .undef, .undef, .undef, .undef, .undef], mem := [] }
theorem rdb0_lodgerref08_Addrs  (L : Lp S (Bool)) (s0 : (List Int)) (s1 : (List Int)) (s5 : Int) : (roundWF (Cb_lodgerref08_Addrs ) (clDF (Cb_lodgerref08_Addrs ) 0) (hdOf (Cb_lodgerref08_Addrs ) hd_lodgerref08_Addrs) 52 0 [Ty.bool] (res1 Ty.bool) L (h0_lodgerref08_Addrs s0 s1 s5)).opt = lodgerref08_Addrs_s0b  (fun s0 s1 s5 => (L (todoOf (Cb_lodgerref08_Addrs ) 52 0) (h0_lodgerref08_Addrs s0 s1 s5)).opt) s0 s1 s5 := by kernel_rfl
theorem rd0_lodgerref08_Addrs (L : Lp S (Bool)) (s0 : (List Int)) (s1 : (List Int)) (s5 : Int) : (roundW C_lodgerref08_Addrs (clD C_lodgerref08_Addrs 0) (hdOf C_lodgerref08_Addrs hd_lodgerref08_Addrs) 52 0 [Ty.bool] (res1 Ty.bool) L (h0_lodgerref08_Addrs s0 s1 s5)).opt = lodgerref08_Addrs_s0 (fun s0 s1 s5 => (L (todoOf C_lodgerref08_Addrs 52 0) (h0_lodgerref08_Addrs s0 s1 s5)).opt) s0 s1 s5 := (congrArg D.opt (roundWF_eq _ _ _ _ _ _ _ L _)).trans (rdb0_lodgerref08_Addrs  L s0 s1 s5)
theorem enb_lodgerref08_Addrs  (L : Lp S (Bool)) (a0 : (List Int)) (a1 : (List Int)) : (runWF (Cb_lodgerref08_Addrs ) (clDF (Cb_lodgerref08_Addrs ) 0) (fun _ => canonL (hdOf (Cb_lodgerref08_Addrs ) hd_lodgerref08_Addrs) L) 52 [Ty.bool] (res1 Ty.bool) [encV E (Ty.slice u32) a0, encV E (Ty.slice u32) a1]).opt = lodgerref08_Addrs_eb  (fun s0 s1 s5 => (L (todoOf (Cb_lodgerref08_Addrs ) 52 0) (h0_lodgerref08_Addrs s0 s1 s5)).opt) a0 a1 := by kernel_rfl
theorem en_lodgerref08_Addrs (L : Lp S (Bool)) (a0 : (List Int)) (a1 : (List Int)) : (runW C_lodgerref08_Addrs (clD C_lodgerref08_Addrs 0) (fun _ => canonL (hdOf C_lodgerref08_Addrs hd_lodgerref08_Addrs) L) 52 [Ty.bool] (res1 Ty.bool) [encV E (Ty.slice u32) a0, encV E (Ty.slice u32) a1]).opt = lodgerref08_Addrs_e (fun s0 s1 s5 => (L (todoOf C_lodgerref08_Addrs 52 0) (h0_lodgerref08_Addrs s0 s1 s5)).opt) a0 a1 := (congrArg D.opt (runWF_eq _ _ _ _ _ _ _)).trans (enb_lodgerref08_Addrs  L a0 a1)
theorem fx_lodgerref08_Addrs : ∀ n, (∀ (s0 : (List Int)) (s1 : (List Int)) (s5 : Int), (Lfix C_lodgerref08_Addrs (clD C_lodgerref08_Addrs 0) (hdOf C_lodgerref08_Addrs hd_lodgerref08_Addrs) (finW C_lodgerref08_Addrs 52 [Ty.bool] (res1 Ty.bool)) n (todoOf C_lodgerref08_Addrs 52 0) (h0_lodgerref08_Addrs s0 s1 s5)).opt = lodgerref08_Addrs_l0 n s0 s1 s5)
  | 0 => fun _ _ _ => rfl
  | n + 1 => by
    have ih := fx_lodgerref08_Addrs n
    have e0 : (fun s0 s1 s5 => (Lfix C_lodgerref08_Addrs (clD C_lodgerref08_Addrs 0) (hdOf C_lodgerref08_Addrs hd_lodgerref08_Addrs) (finW C_lodgerref08_Addrs 52 [Ty.bool] (res1 Ty.bool)) n (todoOf C_lodgerref08_Addrs 52 0) (h0_lodgerref08_Addrs s0 s1 s5)).opt) = lodgerref08_Addrs_l0 n := funext fun s0 => funext fun s1 => funext fun s5 => ih s0 s1 s5
    exact fun s0 s1 s5 => (congrArg D.opt (Lfix_round C_lodgerref08_Addrs (clD C_lodgerref08_Addrs 0) (hdOf C_lodgerref08_Addrs hd_lodgerref08_Addrs) 52 0 [Ty.bool] (res1 Ty.bool) n _)).trans ((rd0_lodgerref08_Addrs (Lfix C_lodgerref08_Addrs (clD C_lodgerref08_Addrs 0) (hdOf C_lodgerref08_Addrs hd_lodgerref08_Addrs) (finW C_lodgerref08_Addrs 52 [Ty.bool] (res1 Ty.bool)) n) s0 s1 s5).trans (congrArg (fun x => lodgerref08_Addrs_s0  x  s0 s1 s5) e0))
theorem ev_lodgerref08_Addrs (n : Nat) (a0 : (List Int)) (a1 : (List Int)) : (runF C_lodgerref08_Addrs (clD C_lodgerref08_Addrs 0) (hdOf C_lodgerref08_Addrs hd_lodgerref08_Addrs) 52 [Ty.bool] (res1 Ty.bool) n [encV E (Ty.slice u32) a0, encV E (Ty.slice u32) a1]).opt = lodgerref08_Addrs_n n a0 a1 := by
  have ih := fx_lodgerref08_Addrs n
  have e0 : (fun s0 s1 s5 => (Lfix C_lodgerref08_Addrs (clD C_lodgerref08_Addrs 0) (hdOf C_lodgerref08_Addrs hd_lodgerref08_Addrs) (finW C_lodgerref08_Addrs 52 [Ty.bool] (res1 Ty.bool)) n (todoOf C_lodgerref08_Addrs 52 0) (h0_lodgerref08_Addrs s0 s1 s5)).opt) = lodgerref08_Addrs_l0 n := funext fun s0 => funext fun s1 => funext fun s5 => ih s0 s1 s5
  exact (congrArg D.opt (runF_eq C_lodgerref08_Addrs (clD C_lodgerref08_Addrs 0) (hdOf C_lodgerref08_Addrs hd_lodgerref08_Addrs) 52 [Ty.bool] (res1 Ty.bool) n _)).trans ((en_lodgerref08_Addrs (Lfix C_lodgerref08_Addrs (clD C_lodgerref08_Addrs 0) (hdOf C_lodgerref08_Addrs hd_lodgerref08_Addrs) (finW C_lodgerref08_Addrs 52 [Ty.bool] (res1 Ty.bool)) n) a0 a1).trans (congrArg (fun x => lodgerref08_Addrs_e  x  a0 a1) e0))
theorem ok_lodgerref08_Addrs : SpecOK C_lodgerref08_Addrs 52 sp_lodgerref08_Addrs := by
  have hS := specs_ok (C := C_lodgerref08_Addrs) (l := us_lodgerref08_Addrs) rfl trivial
  refine spec_ok (C := C_lodgerref08_Addrs) (cl := (clD C_lodgerref08_Addrs 0)) (hd := (hdOf C_lodgerref08_Addrs hd_lodgerref08_Addrs)) envOK (tyOK_of (l := tab) rfl tabT) hS (clD_ok envOK (tyOK_of (l := tab) rfl tabT) hS mixed (inl_ok (l := []) rfl (by kernel_rfl)) _) mixed (hdOf_ok envOK hd_lodgerref08_Addrs) (by kernel_rfl) [Ty.bool] (res1 Ty.bool) (de1 (S := S) Ty.bool) fun cs r h => ?_
  obtain ⟨a0, a1, rfl, h⟩ := inv2 h
  exact ⟨big, (ev_lodgerref08_Addrs big a0 a1).trans ((def_lodgerref08_Addrs a0 a1).symm.trans h)⟩
-- lodger/lodgerref08.Errs
def lodgerref08_Errs_s0b  (k0 : (List Int) → (List Int) → Int → Option (Bool)) (s0 : (List Int)) (s1 : (List Int)) (s5 : Int) : Option (Bool) := (bif (decide (s5 < (List.length s0 : Int))) then ((geti s0 s5).bind fun x1 => ((geti s1 s5).bind fun x2 => (bif (x1 != x2) then some false else k0 s0 s1 (IntKind.wrap .i64 (s5 + 1))))) else some true)
def lodgerref08_Errs_eb  (k0 : (List Int) → (List Int) → Int → Option (Bool)) (a0 : (List Int)) (a1 : (List Int)) : Option (Bool) := (bif ((List.length a0 : Int) != (List.length a1 : Int)) then some false else k0 a0 a1 0)
def sp_lodgerref08_Errs : Spec S := { args := [(Ty.slice i64), (Ty.slice i64)], R := Bool, run := run2 (Ty.slice i64) (Ty.slice i64) lodgerref08_Errs, enc := enc1 (S := S) Ty.bool }
def spb_lodgerref08_Errs (F : (List Int) → (List Int) → Option (Bool)) : Spec S := { args := [(Ty.slice i64), (Ty.slice i64)], R := Bool, run := run2 (Ty.slice i64) (Ty.slice i64) F, enc := enc1 (S := S) Ty.bool }
def usb_lodgerref08_Errs  : List (Nat × Spec S) := []
def us_lodgerref08_Errs : List (Nat × Spec S) := []
noncomputable def Cb_lodgerref08_Errs  : Ctx S := { P := Tryd.prog, E := E, ty := tyL tab, G := glL gtab, spec := spL (usb_lodgerref08_Errs ), inl := inL [] }
noncomputable def C_lodgerref08_Errs : Ctx S := Cb_lodgerref08_Errs 
def hd_lodgerref08_Errs : List ((Nat × Nat) × List Hs) := [((2, 4), [.canon 0 [] [0, 1, 5], .plain 0 (Ty.slice i64), .plain 1 (Ty.slice i64), .plain 5 i64])]
def h0_lodgerref08_Errs (s0 : (List Int)) (s1 : (List Int)) (s5 : Int) : St S := { tmps := [.cell (Ty.slice i64) s0, .cell (Ty.slice i64) s1, .undef, .undef, .undef, .cell i64 s5, .undef, .undef, .undef, .undef, .undef, .undef, .undef, .undef, .undef, .undef, .undef, .undef, .undef, .undef, .undef, .undef, .undef, .undef, .undef, .undef], mem := [] }
theorem rdb0_lodgerref08_Errs  (L : Lp S (Bool)) (s0 : (List Int)) (s1 : (List Int)) (s5 : Int) : (roundWF (Cb_lodgerref08_Errs ) (clDF (Cb_lodgerref08_Errs ) 0) (hdOf (Cb_lodgerref08_Errs ) hd_lodgerref08_Errs) 53 0 [Ty.bool] (res1 Ty.bool) L (h0_lodgerref08_Errs s0 s1 s5)).opt = lodgerref08_Errs_s0b  (fun s0 s1 s5 => (L (todoOf (Cb_lodgerref08_Errs ) 53 0) (h0_lodgerref08_Errs s0 s1 s5)).opt) s0 s1 s5 := by kernel_rfl
theorem rd0_lodgerref08_Errs (L : Lp S (Bool)) (s0 : (List Int)) (s1 : (List Int)) (s5 : Int) : (roundW C_lodgerref08_Errs (clD C_lodgerref08_Errs 0) (hdOf C_lodgerref08_Errs hd_lodgerref08_Errs) 53 0 [Ty.bool] (res1 Ty.bool) L (h0_lodgerref08_Errs s0 s1 s5)).opt = lodgerref08_Errs_s0 (fun s0 s1 s5 => (L (todoOf C_lodgerref08_Errs 53 0) (h0_lodgerref08_Errs s0 s1 s5)).opt) s0 s1 s5 := (congrArg D.opt (roundWF_eq _ _ _ _ _ _ _ L _)).trans (rdb0_lodgerref08_Errs  L s0 s1 s5)
theorem enb_lodgerref08_Errs  (L : Lp S (Bool)) (a0 : (List Int)) (a1 : (List Int)) : (runWF (Cb_lodgerref08_Errs ) (clDF (Cb_lodgerref08_Errs ) 0) (fun _ => canonL (hdOf (Cb_lodgerref08_Errs ) hd_lodgerref08_Errs) L) 53 [Ty.bool] (res1 Ty.bool) [encV E (Ty.slice i64) a0, encV E (Ty.slice i64) a1]).opt = lodgerref08_Errs_eb  (fun s0 s1 s5 => (L (todoOf (Cb_lodgerref08_Errs ) 53 0) (h0_lodgerref08_Errs s0 s1 s5)).opt) a0 a1 := by kernel_rfl
theorem en_lodgerref08_Errs (L : Lp S (Bool)) (a0 : (List Int)) (a1 : (List Int)) : (runW C_lodgerref08_Errs (clD C_lodgerref08_Errs 0) (fun _ => canonL (hdOf C_lodgerref08_Errs hd_lodgerref08_Errs) L) 53 [Ty.bool] (res1 Ty.bool) [encV E (Ty.slice i64) a0, encV E (Ty.slice i64) a1]).opt = lodgerref08_Errs_e (fun s0 s1 s5 => (L (todoOf C_lodgerref08_Errs 53 0) (h0_lodgerref08_Errs s0 s1 s5)).opt) a0 a1 := (congrArg D.opt (runWF_eq _ _ _ _ _ _ _)).trans (enb_lodgerref08_Errs  L a0 a1)
theorem fx_lodgerref08_Errs : ∀ n, (∀ (s0 : (List Int)) (s1 : (List Int)) (s5 : Int), (Lfix C_lodgerref08_Errs (clD C_lodgerref08_Errs 0) (hdOf C_lodgerref08_Errs hd_lodgerref08_Errs) (finW C_lodgerref08_Errs 53 [Ty.bool] (res1 Ty.bool)) n (todoOf C_lodgerref08_Errs 53 0) (h0_lodgerref08_Errs s0 s1 s5)).opt = lodgerref08_Errs_l0 n s0 s1 s5)
  | 0 => fun _ _ _ => rfl
  | n + 1 => by
    have ih := fx_lodgerref08_Errs n
    have e0 : (fun s0 s1 s5 => (Lfix C_lodgerref08_Errs (clD C_lodgerref08_Errs 0) (hdOf C_lodgerref08_Errs hd_lodgerref08_Errs) (finW C_lodgerref08_Errs 53 [Ty.bool] (res1 Ty.bool)) n (todoOf C_lodgerref08_Errs 53 0) (h0_lodgerref08_Errs s0 s1 s5)).opt) = lodgerref08_Errs_l0 n := funext fun s0 => funext fun s1 => funext fun s5 => ih s0 s1 s5
    exact fun s0 s1 s5 => (congrArg D.opt (Lfix_round C_lodgerref08_Errs (clD C_lodgerref08_Errs 0) (hdOf C_lodgerref08_Errs hd_lodgerref08_Errs) 53 0 [Ty.bool] (res1 Ty.bool) n _)).trans ((rd0_lodgerref08_Errs (Lfix C_lodgerref08_Errs (clD C_lodgerref08_Errs 0) (hdOf C_lodgerref08_Errs hd_lodgerref08_Errs) (finW C_lodgerref08_Errs 53 [Ty.bool] (res1 Ty.bool)) n) s0 s1 s5).trans (congrArg (fun x => lodgerref08_Errs_s0  x  s0 s1 s5) e0))
theorem ev_lodgerref08_Errs (n : Nat) (a0 : (List Int)) (a1 : (List Int)) : (runF C_lodgerref08_Errs (clD C_lodgerref08_Errs 0) (hdOf C_lodgerref08_Errs hd_lodgerref08_Errs) 53 [Ty.bool] (res1 Ty.bool) n [encV E (Ty.slice i64) a0, encV E (Ty.slice i64) a1]).opt = lodgerref08_Errs_n n a0 a1 := by
  have ih := fx_lodgerref08_Errs n
  have e0 : (fun s0 s1 s5 => (Lfix C_lodgerref08_Errs (clD C_lodgerref08_Errs 0) (hdOf C_lodgerref08_Errs hd_lodgerref08_Errs) (finW C_lodgerref08_Errs 53 [Ty.bool] (res1 Ty.bool)) n (todoOf C_lodgerref08_Errs 53 0) (h0_lodgerref08_Errs s0 s1 s5)).opt) = lodgerref08_Errs_l0 n := funext fun s0 => funext fun s1 => funext fun s5 => ih s0 s1 s5
  exact (congrArg D.opt (runF_eq C_lodgerref08_Errs (clD C_lodgerref08_Errs 0) (hdOf C_lodgerref08_Errs hd_lodgerref08_Errs) 53 [Ty.bool] (res1 Ty.bool) n _)).trans ((en_lodgerref08_Errs (Lfix C_lodgerref08_Errs (clD C_lodgerref08_Errs 0) (hdOf C_lodgerref08_Errs hd_lodgerref08_Errs) (finW C_lodgerref08_Errs 53 [Ty.bool] (res1 Ty.bool)) n) a0 a1).trans (congrArg (fun x => lodgerref08_Errs_e  x  a0 a1) e0))
theorem ok_lodgerref08_Errs : SpecOK C_lodgerref08_Errs 53 sp_lodgerref08_Errs := by
  have hS := specs_ok (C := C_lodgerref08_Errs) (l := us_lodgerref08_Errs) rfl trivial
  refine spec_ok (C := C_lodgerref08_Errs) (cl := (clD C_lodgerref08_Errs 0)) (hd := (hdOf C_lodgerref08_Errs hd_lodgerref08_Errs)) envOK (tyOK_of (l := tab) rfl tabT) hS (clD_ok envOK (tyOK_of (l := tab) rfl tabT) hS mixed (inl_ok (l := []) rfl (by kernel_rfl)) _) mixed (hdOf_ok envOK hd_lodgerref08_Errs) (by kernel_rfl) [Ty.bool] (res1 Ty.bool) (de1 (S := S) Ty.bool) fun cs r h => ?_
  obtain ⟨a0, a1, rfl, h⟩ := inv2 h
  exact ⟨big, (ev_lodgerref08_Errs big a0 a1).trans ((def_lodgerref08_Errs a0 a1).symm.trans h)⟩
-- lodger/lodgerref08.Answers
def lodgerref08_Answers_b (g_lodgerref08_Addrs : (List Int) → (List Int) → Option (Bool)) (g_lodgerref08_Errs : (List Int) → (List Int) → Option (Bool)) (a0 : Answer) (a1 : Answer) : Option (Bool) := (bif (a0.err == a1.err) then (bif (a0.addr == a1.addr) then (bif (a0.used == a1.used) then ((g_lodgerref08_Addrs a0.addrs a1.addrs).bind fun r1 => (bif r1 then ((g_lodgerref08_Errs a0.errs a1.errs).bind fun r2 => some r2) else some false)) else some false) else some false) else some false)
def sp_lodgerref08_Answers : Spec S := { args := [(Ty.st 3), (Ty.st 3)], R := Bool, run := run2 (Ty.st 3) (Ty.st 3) lodgerref08_Answers, enc := enc1 (S := S) Ty.bool }
def spb_lodgerref08_Answers (F : Answer → Answer → Option (Bool)) : Spec S := { args := [(Ty.st 3), (Ty.st 3)], R := Bool, run := run2 (Ty.st 3) (Ty.st 3) F, enc := enc1 (S := S) Ty.bool }
def usb_lodgerref08_Answers (g_lodgerref08_Addrs : (List Int) → (List Int) → Option (Bool)) (g_lodgerref08_Errs : (List Int) → (List Int) → Option (Bool)) : List (Nat × Spec S) := [(52, spb_lodgerref08_Addrs g_lodgerref08_Addrs), (53, spb_lodgerref08_Errs g_lodgerref08_Errs)]
def us_lodgerref08_Answers : List (Nat × Spec S) := [(52, sp_lodgerref08_Addrs), (53, sp_lodgerref08_Errs)]
noncomputable def Cb_lodgerref08_Answers (g_lodgerref08_Addrs : (List Int) → (List Int) → Option (Bool)) (g_lodgerref08_Errs : (List Int) → (List Int) → Option (Bool)) : Ctx S := { P := Tryd.prog, E := E, ty := tyL tab, G := glL gtab, spec := spL (usb_lodgerref08_Answers g_lodgerref08_Addrs g_lodgerref08_Errs), inl := inL [] }
noncomputable def C_lodgerref08_Answers : Ctx S := Cb_lodgerref08_Answers lodgerref08_Addrs lodgerref08_Errs
theorem evb_lodgerref08_Answers (g_lodgerref08_Addrs : (List Int) → (List Int) → Option (Bool)) (g_lodgerref08_Errs : (List Int) → (List Int) → Option (Bool)) (L : (St S → D (Bool)) → Lp S (Bool)) (a0 : Answer) (a1 : Answer) : (runWF (Cb_lodgerref08_Answers g_lodgerref08_Addrs g_lodgerref08_Errs) (clDF (Cb_lodgerref08_Answers g_lodgerref08_Addrs g_lodgerref08_Errs) 0) L 21 [Ty.bool] (res1 Ty.bool) [encV E (Ty.st 3) a0, encV E (Ty.st 3) a1]).opt = lodgerref08_Answers_b g_lodgerref08_Addrs g_lodgerref08_Errs a0 a1 := by kernel_rfl
theorem ev_lodgerref08_Answers (L : (St S → D (Bool)) → Lp S (Bool)) (a0 : Answer) (a1 : Answer) : (runW C_lodgerref08_Answers (clD C_lodgerref08_Answers 0) L 21 [Ty.bool] (res1 Ty.bool) [encV E (Ty.st 3) a0, encV E (Ty.st 3) a1]).opt = lodgerref08_Answers a0 a1 := (congrArg D.opt (runWF_eq _ _ L _ _ _ _)).trans (evb_lodgerref08_Answers lodgerref08_Addrs lodgerref08_Errs L a0 a1)
theorem ok_lodgerref08_Answers : SpecOK C_lodgerref08_Answers 21 sp_lodgerref08_Answers := by
  have hS := specs_ok (C := C_lodgerref08_Answers) (l := us_lodgerref08_Answers) rfl ⟨ok_lodgerref08_Addrs.re rfl rfl rfl, ok_lodgerref08_Errs.re rfl rfl rfl, trivial⟩
  refine spec_ok (C := C_lodgerref08_Answers) (cl := (clD C_lodgerref08_Answers 0)) (hd := (fun _ s => some s)) envOK (tyOK_of (l := tab) rfl tabT) hS (clD_ok envOK (tyOK_of (l := tab) rfl tabT) hS mixed (inl_ok (l := []) rfl (by kernel_rfl)) _) mixed HdOK.id (by kernel_rfl) [Ty.bool] (res1 Ty.bool) (de1 (S := S) Ty.bool) fun cs r h => ?_
  obtain ⟨a0, a1, rfl, h⟩ := inv2 h
  exact ⟨0, (ev_lodgerref08_Answers _ a0 a1).trans h⟩
-- lodger/lodgerref08.Asks
def lodgerref08_Asks_b (g_lodgerref08_Addrs : (List Int) → (List Int) → Option (Bool)) (a0 : Ask) (a1 : Ask) : Option (Bool) := (bif (a0.kind == a1.kind) then (bif (a0.addr == a1.addr) then ((g_lodgerref08_Addrs a0.addrs a1.addrs).bind fun r1 => some r1) else some false) else some false)
def sp_lodgerref08_Asks : Spec S := { args := [(Ty.st 2), (Ty.st 2)], R := Bool, run := run2 (Ty.st 2) (Ty.st 2) lodgerref08_Asks, enc := enc1 (S := S) Ty.bool }
def spb_lodgerref08_Asks (F : Ask → Ask → Option (Bool)) : Spec S := { args := [(Ty.st 2), (Ty.st 2)], R := Bool, run := run2 (Ty.st 2) (Ty.st 2) F, enc := enc1 (S := S) Ty.bool }
def usb_lodgerref08_Asks (g_lodgerref08_Addrs : (List Int) → (List Int) → Option (Bool)) : List (Nat × Spec S) := [(52, spb_lodgerref08_Addrs g_lodgerref08_Addrs)]
def us_lodgerref08_Asks : List (Nat × Spec S) := [(52, sp_lodgerref08_Addrs)]
noncomputable def Cb_lodgerref08_Asks (g_lodgerref08_Addrs : (List Int) → (List Int) → Option (Bool)) : Ctx S := { P := Tryd.prog, E := E, ty := tyL tab, G := glL gtab, spec := spL (usb_lodgerref08_Asks g_lodgerref08_Addrs), inl := inL [] }
noncomputable def C_lodgerref08_Asks : Ctx S := Cb_lodgerref08_Asks lodgerref08_Addrs
theorem evb_lodgerref08_Asks (g_lodgerref08_Addrs : (List Int) → (List Int) → Option (Bool)) (L : (St S → D (Bool)) → Lp S (Bool)) (a0 : Ask) (a1 : Ask) : (runWF (Cb_lodgerref08_Asks g_lodgerref08_Addrs) (clDF (Cb_lodgerref08_Asks g_lodgerref08_Addrs) 0) L 54 [Ty.bool] (res1 Ty.bool) [encV E (Ty.st 2) a0, encV E (Ty.st 2) a1]).opt = lodgerref08_Asks_b g_lodgerref08_Addrs a0 a1 := by kernel_rfl
theorem ev_lodgerref08_Asks (L : (St S → D (Bool)) → Lp S (Bool)) (a0 : Ask) (a1 : Ask) : (runW C_lodgerref08_Asks (clD C_lodgerref08_Asks 0) L 54 [Ty.bool] (res1 Ty.bool) [encV E (Ty.st 2) a0, encV E (Ty.st 2) a1]).opt = lodgerref08_Asks a0 a1 := (congrArg D.opt (runWF_eq _ _ L _ _ _ _)).trans (evb_lodgerref08_Asks lodgerref08_Addrs L a0 a1)
theorem ok_lodgerref08_Asks : SpecOK C_lodgerref08_Asks 54 sp_lodgerref08_Asks := by
  have hS := specs_ok (C := C_lodgerref08_Asks) (l := us_lodgerref08_Asks) rfl ⟨ok_lodgerref08_Addrs.re rfl rfl rfl, trivial⟩
  refine spec_ok (C := C_lodgerref08_Asks) (cl := (clD C_lodgerref08_Asks 0)) (hd := (fun _ s => some s)) envOK (tyOK_of (l := tab) rfl tabT) hS (clD_ok envOK (tyOK_of (l := tab) rfl tabT) hS mixed (inl_ok (l := []) rfl (by kernel_rfl)) _) mixed HdOK.id (by kernel_rfl) [Ty.bool] (res1 Ty.bool) (de1 (S := S) Ty.bool) fun cs r h => ?_
  obtain ⟨a0, a1, rfl, h⟩ := inv2 h
  exact ⟨0, (ev_lodgerref08_Asks _ a0 a1).trans h⟩
-- lodger/lodgerref02.Same
def lodgerref02_Same_s0b  (k0 : (List Int) → (List Int) → Int → Option (Bool)) (s0 : (List Int)) (s1 : (List Int)) (s5 : Int) : Option (Bool) := (bif (decide (s5 < (List.length s0 : Int))) then ((geti s0 s5).bind fun x1 => ((geti s1 s5).bind fun x2 => (bif (x1 != x2) then some false else k0 s0 s1 (IntKind.wrap .i64 (s5 + 1))))) else some true)
def lodgerref02_Same_eb  (k0 : (List Int) → (List Int) → Int → Option (Bool)) (a0 : (List Int)) (a1 : (List Int)) : Option (Bool) := (bif ((List.length a0 : Int) != (List.length a1 : Int)) then some false else k0 a0 a1 0)
def sp_lodgerref02_Same : Spec S := { args := [(Ty.slice u64), (Ty.slice u64)], R := Bool, run := run2 (Ty.slice u64) (Ty.slice u64) lodgerref02_Same, enc := enc1 (S := S) Ty.bool }
def spb_lodgerref02_Same (F : (List Int) → (List Int) → Option (Bool)) : Spec S := { args := [(Ty.slice u64), (Ty.slice u64)], R := Bool, run := run2 (Ty.slice u64) (Ty.slice u64) F, enc := enc1 (S := S) Ty.bool }
def usb_lodgerref02_Same  : List (Nat × Spec S) := []
def us_lodgerref02_Same : List (Nat × Spec S) := []
noncomputable def Cb_lodgerref02_Same  : Ctx S := { P := Tryd.prog, E := E, ty := tyL tab, G := glL gtab, spec := spL (usb_lodgerref02_Same ), inl := inL [] }
noncomputable def C_lodgerref02_Same : Ctx S := Cb_lodgerref02_Same 
def hd_lodgerref02_Same : List ((Nat × Nat) × List Hs) := [((2, 4), [.canon 0 [] [0, 1, 5], .plain 0 (Ty.slice u64), .plain 1 (Ty.slice u64), .plain 5 i64])]
def h0_lodgerref02_Same (s0 : (List Int)) (s1 : (List Int)) (s5 : Int) : St S := { tmps := [.cell (Ty.slice u64) s0, .cell (Ty.slice u64) s1, .undef, .undef, .undef, .cell i64 s5, .undef, .undef, .undef, .undef, .undef, .undef, .undef, .undef, .undef, .undef, .undef, .undef, .undef, .undef, .undef, .undef, .undef, .undef, .undef, .undef], mem := [] }
theorem rdb0_lodgerref02_Same  (L : Lp S (Bool)) (s0 : (List Int)) (s1 : (List Int)) (s5 : Int) : (roundWF (Cb_lodgerref02_Same ) (clDF (Cb_lodgerref02_Same ) 0) (hdOf (Cb_lodgerref02_Same ) hd_lodgerref02_Same) 55 0 [Ty.bool] (res1 Ty.bool) L (h0_lodgerref02_Same s0 s1 s5)).opt = lodgerref02_Same_s0b  (fun s0 s1 s5 => (L (todoOf (Cb_lodgerref02_Same ) 55 0) (h0_lodgerref02_Same s0 s1 s5)).opt) s0 s1 s5 := by kernel_rfl
theorem rd0_lodgerref02_Same (L : Lp S (Bool)) (s0 : (List Int)) (s1 : (List Int)) (s5 : Int) : (roundW C_lodgerref02_Same (clD C_lodgerref02_Same 0) (hdOf C_lodgerref02_Same hd_lodgerref02_Same) 55 0 [Ty.bool] (res1 Ty.bool) L (h0_lodgerref02_Same s0 s1 s5)).opt = lodgerref02_Same_s0 (fun s0 s1 s5 => (L (todoOf C_lodgerref02_Same 55 0) (h0_lodgerref02_Same s0 s1 s5)).opt) s0 s1 s5 := (congrArg D.opt (roundWF_eq _ _ _ _ _ _ _ L _)).trans (rdb0_lodgerref02_Same  L s0 s1 s5)
theorem enb_lodgerref02_Same  (L : Lp S (Bool)) (a0 : (List Int)) (a1 : (List Int)) : (runWF (Cb_lodgerref02_Same ) (clDF (Cb_lodgerref02_Same ) 0) (fun _ => canonL (hdOf (Cb_lodgerref02_Same ) hd_lodgerref02_Same) L) 55 [Ty.bool] (res1 Ty.bool) [encV E (Ty.slice u64) a0, encV E (Ty.slice u64) a1]).opt = lodgerref02_Same_eb  (fun s0 s1 s5 => (L (todoOf (Cb_lodgerref02_Same ) 55 0) (h0_lodgerref02_Same s0 s1 s5)).opt) a0 a1 := by kernel_rfl
theorem en_lodgerref02_Same (L : Lp S (Bool)) (a0 : (List Int)) (a1 : (List Int)) : (runW C_lodgerref02_Same (clD C_lodgerref02_Same 0) (fun _ => canonL (hdOf C_lodgerref02_Same hd_lodgerref02_Same) L) 55 [Ty.bool] (res1 Ty.bool) [encV E (Ty.slice u64) a0, encV E (Ty.slice u64) a1]).opt = lodgerref02_Same_e (fun s0 s1 s5 => (L (todoOf C_lodgerref02_Same 55 0) (h0_lodgerref02_Same s0 s1 s5)).opt) a0 a1 := (congrArg D.opt (runWF_eq _ _ _ _ _ _ _)).trans (enb_lodgerref02_Same  L a0 a1)
theorem fx_lodgerref02_Same : ∀ n, (∀ (s0 : (List Int)) (s1 : (List Int)) (s5 : Int), (Lfix C_lodgerref02_Same (clD C_lodgerref02_Same 0) (hdOf C_lodgerref02_Same hd_lodgerref02_Same) (finW C_lodgerref02_Same 55 [Ty.bool] (res1 Ty.bool)) n (todoOf C_lodgerref02_Same 55 0) (h0_lodgerref02_Same s0 s1 s5)).opt = lodgerref02_Same_l0 n s0 s1 s5)
  | 0 => fun _ _ _ => rfl
  | n + 1 => by
    have ih := fx_lodgerref02_Same n
    have e0 : (fun s0 s1 s5 => (Lfix C_lodgerref02_Same (clD C_lodgerref02_Same 0) (hdOf C_lodgerref02_Same hd_lodgerref02_Same) (finW C_lodgerref02_Same 55 [Ty.bool] (res1 Ty.bool)) n (todoOf C_lodgerref02_Same 55 0) (h0_lodgerref02_Same s0 s1 s5)).opt) = lodgerref02_Same_l0 n := funext fun s0 => funext fun s1 => funext fun s5 => ih s0 s1 s5
    exact fun s0 s1 s5 => (congrArg D.opt (Lfix_round C_lodgerref02_Same (clD C_lodgerref02_Same 0) (hdOf C_lodgerref02_Same hd_lodgerref02_Same) 55 0 [Ty.bool] (res1 Ty.bool) n _)).trans ((rd0_lodgerref02_Same (Lfix C_lodgerref02_Same (clD C_lodgerref02_Same 0) (hdOf C_lodgerref02_Same hd_lodgerref02_Same) (finW C_lodgerref02_Same 55 [Ty.bool] (res1 Ty.bool)) n) s0 s1 s5).trans (congrArg (fun x => lodgerref02_Same_s0  x  s0 s1 s5) e0))
theorem ev_lodgerref02_Same (n : Nat) (a0 : (List Int)) (a1 : (List Int)) : (runF C_lodgerref02_Same (clD C_lodgerref02_Same 0) (hdOf C_lodgerref02_Same hd_lodgerref02_Same) 55 [Ty.bool] (res1 Ty.bool) n [encV E (Ty.slice u64) a0, encV E (Ty.slice u64) a1]).opt = lodgerref02_Same_n n a0 a1 := by
  have ih := fx_lodgerref02_Same n
  have e0 : (fun s0 s1 s5 => (Lfix C_lodgerref02_Same (clD C_lodgerref02_Same 0) (hdOf C_lodgerref02_Same hd_lodgerref02_Same) (finW C_lodgerref02_Same 55 [Ty.bool] (res1 Ty.bool)) n (todoOf C_lodgerref02_Same 55 0) (h0_lodgerref02_Same s0 s1 s5)).opt) = lodgerref02_Same_l0 n := funext fun s0 => funext fun s1 => funext fun s5 => ih s0 s1 s5
  exact (congrArg D.opt (runF_eq C_lodgerref02_Same (clD C_lodgerref02_Same 0) (hdOf C_lodgerref02_Same hd_lodgerref02_Same) 55 [Ty.bool] (res1 Ty.bool) n _)).trans ((en_lodgerref02_Same (Lfix C_lodgerref02_Same (clD C_lodgerref02_Same 0) (hdOf C_lodgerref02_Same hd_lodgerref02_Same) (finW C_lodgerref02_Same 55 [Ty.bool] (res1 Ty.bool)) n) a0 a1).trans (congrArg (fun x => lodgerref02_Same_e  x  a0 a1) e0))
theorem ok_lodgerref02_Same : SpecOK C_lodgerref02_Same 55 sp_lodgerref02_Same := by
  have hS := specs_ok (C := C_lodgerref02_Same) (l := us_lodgerref02_Same) rfl trivial
  refine spec_ok (C := C_lodgerref02_Same) (cl := (clD C_lodgerref02_Same 0)) (hd := (hdOf C_lodgerref02_Same hd_lodgerref02_Same)) envOK (tyOK_of (l := tab) rfl tabT) hS (clD_ok envOK (tyOK_of (l := tab) rfl tabT) hS mixed (inl_ok (l := []) rfl (by kernel_rfl)) _) mixed (hdOf_ok envOK hd_lodgerref02_Same) (by kernel_rfl) [Ty.bool] (res1 Ty.bool) (de1 (S := S) Ty.bool) fun cs r h => ?_
  obtain ⟨a0, a1, rfl, h⟩ := inv2 h
  exact ⟨big, (ev_lodgerref02_Same big a0 a1).trans ((def_lodgerref02_Same a0 a1).symm.trans h)⟩
-- lodger/lodgerref08.Same
def lodgerref08_Same_b (g_lodgerref08_Answers : Answer → Answer → Option (Bool)) (g_lodgerref08_Asks : Ask → Ask → Option (Bool)) (g_lodgerref02_Same : (List Int) → (List Int) → Option (Bool)) (a0 : Oq) (a1 : Oq) : Option (Bool) := ((g_lodgerref08_Asks a0.ask a1.ask).bind fun r1 => (bif r1 then ((g_lodgerref08_Answers a0.answer a1.answer).bind fun r2 => (bif r2 then (bif (a0.phase == a1.phase) then (bif (a0.shard == a1.shard) then (bif (a0.sought == a1.sought) then (bif (a0.leaf == a1.leaf) then (bif (a0.bit == a1.bit) then (bif (a0.word == a1.word) then (bif (a0.full == a1.full) then ((g_lodgerref02_Same a0.seen a1.seen).bind fun r3 => (bif r3 then (bif (a0.at_ == a1.at_) then (bif (a0.tries == a1.tries) then (bif (a0.item == a1.item) then some (a0.stamp == a1.stamp) else some false) else some false) else some false) else some false)) else some false) else some false) else some false) else some false) else some false) else some false) else some false) else some false)) else some false))
def sp_lodgerref08_Same : Spec S := { args := [(Ty.st 4), (Ty.st 4)], R := Bool, run := run2 (Ty.st 4) (Ty.st 4) lodgerref08_Same, enc := enc1 (S := S) Ty.bool }
def spb_lodgerref08_Same (F : Oq → Oq → Option (Bool)) : Spec S := { args := [(Ty.st 4), (Ty.st 4)], R := Bool, run := run2 (Ty.st 4) (Ty.st 4) F, enc := enc1 (S := S) Ty.bool }
def usb_lodgerref08_Same (g_lodgerref08_Answers : Answer → Answer → Option (Bool)) (g_lodgerref08_Asks : Ask → Ask → Option (Bool)) (g_lodgerref02_Same : (List Int) → (List Int) → Option (Bool)) : List (Nat × Spec S) := [(21, spb_lodgerref08_Answers g_lodgerref08_Answers), (54, spb_lodgerref08_Asks g_lodgerref08_Asks), (55, spb_lodgerref02_Same g_lodgerref02_Same)]
def us_lodgerref08_Same : List (Nat × Spec S) := [(21, sp_lodgerref08_Answers), (54, sp_lodgerref08_Asks), (55, sp_lodgerref02_Same)]
noncomputable def Cb_lodgerref08_Same (g_lodgerref08_Answers : Answer → Answer → Option (Bool)) (g_lodgerref08_Asks : Ask → Ask → Option (Bool)) (g_lodgerref02_Same : (List Int) → (List Int) → Option (Bool)) : Ctx S := { P := Tryd.prog, E := E, ty := tyL tab, G := glL gtab, spec := spL (usb_lodgerref08_Same g_lodgerref08_Answers g_lodgerref08_Asks g_lodgerref02_Same), inl := inL [] }
noncomputable def C_lodgerref08_Same : Ctx S := Cb_lodgerref08_Same lodgerref08_Answers lodgerref08_Asks lodgerref02_Same
theorem evb_lodgerref08_Same (g_lodgerref08_Answers : Answer → Answer → Option (Bool)) (g_lodgerref08_Asks : Ask → Ask → Option (Bool)) (g_lodgerref02_Same : (List Int) → (List Int) → Option (Bool)) (L : (St S → D (Bool)) → Lp S (Bool)) (a0 : Oq) (a1 : Oq) : (runWF (Cb_lodgerref08_Same g_lodgerref08_Answers g_lodgerref08_Asks g_lodgerref02_Same) (clDF (Cb_lodgerref08_Same g_lodgerref08_Answers g_lodgerref08_Asks g_lodgerref02_Same) 0) L 22 [Ty.bool] (res1 Ty.bool) [encV E (Ty.st 4) a0, encV E (Ty.st 4) a1]).opt = lodgerref08_Same_b g_lodgerref08_Answers g_lodgerref08_Asks g_lodgerref02_Same a0 a1 := by kernel_rfl
theorem ev_lodgerref08_Same (L : (St S → D (Bool)) → Lp S (Bool)) (a0 : Oq) (a1 : Oq) : (runW C_lodgerref08_Same (clD C_lodgerref08_Same 0) L 22 [Ty.bool] (res1 Ty.bool) [encV E (Ty.st 4) a0, encV E (Ty.st 4) a1]).opt = lodgerref08_Same a0 a1 := (congrArg D.opt (runWF_eq _ _ L _ _ _ _)).trans (evb_lodgerref08_Same lodgerref08_Answers lodgerref08_Asks lodgerref02_Same L a0 a1)
theorem ok_lodgerref08_Same : SpecOK C_lodgerref08_Same 22 sp_lodgerref08_Same := by
  have hS := specs_ok (C := C_lodgerref08_Same) (l := us_lodgerref08_Same) rfl ⟨ok_lodgerref08_Answers.re rfl rfl rfl, ok_lodgerref08_Asks.re rfl rfl rfl, ok_lodgerref02_Same.re rfl rfl rfl, trivial⟩
  refine spec_ok (C := C_lodgerref08_Same) (cl := (clD C_lodgerref08_Same 0)) (hd := (fun _ s => some s)) envOK (tyOK_of (l := tab) rfl tabT) hS (clD_ok envOK (tyOK_of (l := tab) rfl tabT) hS mixed (inl_ok (l := []) rfl (by kernel_rfl)) _) mixed HdOK.id (by kernel_rfl) [Ty.bool] (res1 Ty.bool) (de1 (S := S) Ty.bool) fun cs r h => ?_
  obtain ⟨a0, a1, rfl, h⟩ := inv2 h
  exact ⟨0, (ev_lodgerref08_Same _ a0 a1).trans h⟩
-- lodger/lodgerref04.Many
def lodgerref04_Many_s0b  (k0 : Int → Int → Option (Int)) (s3 : Int) (s4 : Int) : Option (Int) := (bif (decide (s4 < 32)) then k0 (IntKind.wrap .i64 (2 * s3)) (IntKind.wrap .i64 (s4 + 1)) else some s3)
def lodgerref04_Many_eb  (k0 : Int → Int → Option (Int)) (a0 : Int) : Option (Int) := k0 1 a0
def sp_lodgerref04_Many : Spec S := { args := [i64], R := Int, run := run1 i64 lodgerref04_Many, enc := enc1 (S := S) i64 }
def spb_lodgerref04_Many (F : Int → Option (Int)) : Spec S := { args := [i64], R := Int, run := run1 i64 F, enc := enc1 (S := S) i64 }
def usb_lodgerref04_Many  : List (Nat × Spec S) := []
def us_lodgerref04_Many : List (Nat × Spec S) := []
noncomputable def Cb_lodgerref04_Many  : Ctx S := { P := Tryd.prog, E := E, ty := tyL tab, G := glL gtab, spec := spL (usb_lodgerref04_Many ), inl := inL [] }
noncomputable def C_lodgerref04_Many : Ctx S := Cb_lodgerref04_Many 
def hd_lodgerref04_Many : List ((Nat × Nat) × List Hs) := [((2, 3), [.canon 0 [] [3, 4], .plain 3 i64, .plain 4 i64])]
def h0_lodgerref04_Many (s3 : Int) (s4 : Int) : St S := { tmps := [.undef, .undef, .undef, .cell i64 s3, .cell i64 s4, .undef, .undef, .undef, .undef, .undef, .undef, .undef, .undef], mem := [] }
theorem rdb0_lodgerref04_Many  (L : Lp S (Int)) (s3 : Int) (s4 : Int) : (roundWF (Cb_lodgerref04_Many ) (clDF (Cb_lodgerref04_Many ) 0) (hdOf (Cb_lodgerref04_Many ) hd_lodgerref04_Many) 57 0 [i64] (res1 i64) L (h0_lodgerref04_Many s3 s4)).opt = lodgerref04_Many_s0b  (fun s3 s4 => (L (todoOf (Cb_lodgerref04_Many ) 57 0) (h0_lodgerref04_Many s3 s4)).opt) s3 s4 := by kernel_rfl
theorem rd0_lodgerref04_Many (L : Lp S (Int)) (s3 : Int) (s4 : Int) : (roundW C_lodgerref04_Many (clD C_lodgerref04_Many 0) (hdOf C_lodgerref04_Many hd_lodgerref04_Many) 57 0 [i64] (res1 i64) L (h0_lodgerref04_Many s3 s4)).opt = lodgerref04_Many_s0 (fun s3 s4 => (L (todoOf C_lodgerref04_Many 57 0) (h0_lodgerref04_Many s3 s4)).opt) s3 s4 := (congrArg D.opt (roundWF_eq _ _ _ _ _ _ _ L _)).trans (rdb0_lodgerref04_Many  L s3 s4)
theorem enb_lodgerref04_Many  (L : Lp S (Int)) (a0 : Int) : (runWF (Cb_lodgerref04_Many ) (clDF (Cb_lodgerref04_Many ) 0) (fun _ => canonL (hdOf (Cb_lodgerref04_Many ) hd_lodgerref04_Many) L) 57 [i64] (res1 i64) [encV E i64 a0]).opt = lodgerref04_Many_eb  (fun s3 s4 => (L (todoOf (Cb_lodgerref04_Many ) 57 0) (h0_lodgerref04_Many s3 s4)).opt) a0 := by kernel_rfl
theorem en_lodgerref04_Many (L : Lp S (Int)) (a0 : Int) : (runW C_lodgerref04_Many (clD C_lodgerref04_Many 0) (fun _ => canonL (hdOf C_lodgerref04_Many hd_lodgerref04_Many) L) 57 [i64] (res1 i64) [encV E i64 a0]).opt = lodgerref04_Many_e (fun s3 s4 => (L (todoOf C_lodgerref04_Many 57 0) (h0_lodgerref04_Many s3 s4)).opt) a0 := (congrArg D.opt (runWF_eq _ _ _ _ _ _ _)).trans (enb_lodgerref04_Many  L a0)
theorem fx_lodgerref04_Many : ∀ n, (∀ (s3 : Int) (s4 : Int), (Lfix C_lodgerref04_Many (clD C_lodgerref04_Many 0) (hdOf C_lodgerref04_Many hd_lodgerref04_Many) (finW C_lodgerref04_Many 57 [i64] (res1 i64)) n (todoOf C_lodgerref04_Many 57 0) (h0_lodgerref04_Many s3 s4)).opt = lodgerref04_Many_l0 n s3 s4)
  | 0 => fun _ _ => rfl
  | n + 1 => by
    have ih := fx_lodgerref04_Many n
    have e0 : (fun s3 s4 => (Lfix C_lodgerref04_Many (clD C_lodgerref04_Many 0) (hdOf C_lodgerref04_Many hd_lodgerref04_Many) (finW C_lodgerref04_Many 57 [i64] (res1 i64)) n (todoOf C_lodgerref04_Many 57 0) (h0_lodgerref04_Many s3 s4)).opt) = lodgerref04_Many_l0 n := funext fun s3 => funext fun s4 => ih s3 s4
    exact fun s3 s4 => (congrArg D.opt (Lfix_round C_lodgerref04_Many (clD C_lodgerref04_Many 0) (hdOf C_lodgerref04_Many hd_lodgerref04_Many) 57 0 [i64] (res1 i64) n _)).trans ((rd0_lodgerref04_Many (Lfix C_lodgerref04_Many (clD C_lodgerref04_Many 0) (hdOf C_lodgerref04_Many hd_lodgerref04_Many) (finW C_lodgerref04_Many 57 [i64] (res1 i64)) n) s3 s4).trans (congrArg (fun x => lodgerref04_Many_s0  x  s3 s4) e0))
theorem ev_lodgerref04_Many (n : Nat) (a0 : Int) : (runF C_lodgerref04_Many (clD C_lodgerref04_Many 0) (hdOf C_lodgerref04_Many hd_lodgerref04_Many) 57 [i64] (res1 i64) n [encV E i64 a0]).opt = lodgerref04_Many_n n a0 := by
  have ih := fx_lodgerref04_Many n
  have e0 : (fun s3 s4 => (Lfix C_lodgerref04_Many (clD C_lodgerref04_Many 0) (hdOf C_lodgerref04_Many hd_lodgerref04_Many) (finW C_lodgerref04_Many 57 [i64] (res1 i64)) n (todoOf C_lodgerref04_Many 57 0) (h0_lodgerref04_Many s3 s4)).opt) = lodgerref04_Many_l0 n := funext fun s3 => funext fun s4 => ih s3 s4
  exact (congrArg D.opt (runF_eq C_lodgerref04_Many (clD C_lodgerref04_Many 0) (hdOf C_lodgerref04_Many hd_lodgerref04_Many) 57 [i64] (res1 i64) n _)).trans ((en_lodgerref04_Many (Lfix C_lodgerref04_Many (clD C_lodgerref04_Many 0) (hdOf C_lodgerref04_Many hd_lodgerref04_Many) (finW C_lodgerref04_Many 57 [i64] (res1 i64)) n) a0).trans (congrArg (fun x => lodgerref04_Many_e  x  a0) e0))
theorem ok_lodgerref04_Many : SpecOK C_lodgerref04_Many 57 sp_lodgerref04_Many := by
  have hS := specs_ok (C := C_lodgerref04_Many) (l := us_lodgerref04_Many) rfl trivial
  refine spec_ok (C := C_lodgerref04_Many) (cl := (clD C_lodgerref04_Many 0)) (hd := (hdOf C_lodgerref04_Many hd_lodgerref04_Many)) envOK (tyOK_of (l := tab) rfl tabT) hS (clD_ok envOK (tyOK_of (l := tab) rfl tabT) hS mixed (inl_ok (l := []) rfl (by kernel_rfl)) _) mixed (hdOf_ok envOK hd_lodgerref04_Many) (by kernel_rfl) [i64] (res1 i64) (de1 (S := S) i64) fun cs r h => ?_
  obtain ⟨a0, rfl, h⟩ := inv1 h
  exact ⟨big, (ev_lodgerref04_Many big a0).trans ((def_lodgerref04_Many a0).symm.trans h)⟩
-- lodger/lodgerref05.Many
def lodgerref05_Many_b (g_lodgerref04_Many : Int → Option (Int)) (a0 : Block) : Option (Int) := ((g_lodgerref04_Many a0.pre).bind fun r1 => some r1)
def sp_lodgerref05_Many : Spec S := { args := [(Ty.st 0)], R := Int, run := run1 (Ty.st 0) lodgerref05_Many, enc := enc1 (S := S) i64 }
def spb_lodgerref05_Many (F : Block → Option (Int)) : Spec S := { args := [(Ty.st 0)], R := Int, run := run1 (Ty.st 0) F, enc := enc1 (S := S) i64 }
def usb_lodgerref05_Many (g_lodgerref04_Many : Int → Option (Int)) : List (Nat × Spec S) := [(57, spb_lodgerref04_Many g_lodgerref04_Many)]
def us_lodgerref05_Many : List (Nat × Spec S) := [(57, sp_lodgerref04_Many)]
noncomputable def Cb_lodgerref05_Many (g_lodgerref04_Many : Int → Option (Int)) : Ctx S := { P := Tryd.prog, E := E, ty := tyL tab, G := glL gtab, spec := spL (usb_lodgerref05_Many g_lodgerref04_Many), inl := inL [] }
noncomputable def C_lodgerref05_Many : Ctx S := Cb_lodgerref05_Many lodgerref04_Many
theorem evb_lodgerref05_Many (g_lodgerref04_Many : Int → Option (Int)) (L : (St S → D (Int)) → Lp S (Int)) (a0 : Block) : (runWF (Cb_lodgerref05_Many g_lodgerref04_Many) (clDF (Cb_lodgerref05_Many g_lodgerref04_Many) 0) L 24 [i64] (res1 i64) [encV E (Ty.st 0) a0]).opt = lodgerref05_Many_b g_lodgerref04_Many a0 := by kernel_rfl
theorem ev_lodgerref05_Many (L : (St S → D (Int)) → Lp S (Int)) (a0 : Block) : (runW C_lodgerref05_Many (clD C_lodgerref05_Many 0) L 24 [i64] (res1 i64) [encV E (Ty.st 0) a0]).opt = lodgerref05_Many a0 := (congrArg D.opt (runWF_eq _ _ L _ _ _ _)).trans (evb_lodgerref05_Many lodgerref04_Many L a0)
theorem ok_lodgerref05_Many : SpecOK C_lodgerref05_Many 24 sp_lodgerref05_Many := by
  have hS := specs_ok (C := C_lodgerref05_Many) (l := us_lodgerref05_Many) rfl ⟨ok_lodgerref04_Many.re rfl rfl rfl, trivial⟩
  refine spec_ok (C := C_lodgerref05_Many) (cl := (clD C_lodgerref05_Many 0)) (hd := (fun _ s => some s)) envOK (tyOK_of (l := tab) rfl tabT) hS (clD_ok envOK (tyOK_of (l := tab) rfl tabT) hS mixed (inl_ok (l := []) rfl (by kernel_rfl)) _) mixed HdOK.id (by kernel_rfl) [i64] (res1 i64) (de1 (S := S) i64) fun cs r h => ?_
  obtain ⟨a0, rfl, h⟩ := inv1 h
  exact ⟨0, (ev_lodgerref05_Many _ a0).trans h⟩
-- lodger/lodgerref04.May
def lodgerref04_May_b (g_lodgerref04_Many : Int → Option (Int)) (a0 : Block) : Option (Bool) := (bif (decide (a0.pre ≥ 16)) then (bif (decide (a0.pre ≤ 32)) then ((g_lodgerref04_Many a0.pre).bind fun r1 => (bif (r1 == 0) then none else some ((Int.tmod (IntKind.wrap .i64 a0.base) r1) == 0))) else some false) else some false)
def sp_lodgerref04_May : Spec S := { args := [(Ty.st 0)], R := Bool, run := run1 (Ty.st 0) lodgerref04_May, enc := enc1 (S := S) Ty.bool }
def spb_lodgerref04_May (F : Block → Option (Bool)) : Spec S := { args := [(Ty.st 0)], R := Bool, run := run1 (Ty.st 0) F, enc := enc1 (S := S) Ty.bool }
def usb_lodgerref04_May (g_lodgerref04_Many : Int → Option (Int)) : List (Nat × Spec S) := [(57, spb_lodgerref04_Many g_lodgerref04_Many)]
def us_lodgerref04_May : List (Nat × Spec S) := [(57, sp_lodgerref04_Many)]
noncomputable def Cb_lodgerref04_May (g_lodgerref04_Many : Int → Option (Int)) : Ctx S := { P := Tryd.prog, E := E, ty := tyL tab, G := glL gtab, spec := spL (usb_lodgerref04_May g_lodgerref04_Many), inl := inL [] }
noncomputable def C_lodgerref04_May : Ctx S := Cb_lodgerref04_May lodgerref04_Many
theorem evb_lodgerref04_May (g_lodgerref04_Many : Int → Option (Int)) (L : (St S → D (Bool)) → Lp S (Bool)) (a0 : Block) : (runWF (Cb_lodgerref04_May g_lodgerref04_Many) (clDF (Cb_lodgerref04_May g_lodgerref04_Many) 0) L 56 [Ty.bool] (res1 Ty.bool) [encV E (Ty.st 0) a0]).opt = lodgerref04_May_b g_lodgerref04_Many a0 := by kernel_rfl
theorem ev_lodgerref04_May (L : (St S → D (Bool)) → Lp S (Bool)) (a0 : Block) : (runW C_lodgerref04_May (clD C_lodgerref04_May 0) L 56 [Ty.bool] (res1 Ty.bool) [encV E (Ty.st 0) a0]).opt = lodgerref04_May a0 := (congrArg D.opt (runWF_eq _ _ L _ _ _ _)).trans (evb_lodgerref04_May lodgerref04_Many L a0)
theorem ok_lodgerref04_May : SpecOK C_lodgerref04_May 56 sp_lodgerref04_May := by
  have hS := specs_ok (C := C_lodgerref04_May) (l := us_lodgerref04_May) rfl ⟨ok_lodgerref04_Many.re rfl rfl rfl, trivial⟩
  refine spec_ok (C := C_lodgerref04_May) (cl := (clD C_lodgerref04_May 0)) (hd := (fun _ s => some s)) envOK (tyOK_of (l := tab) rfl tabT) hS (clD_ok envOK (tyOK_of (l := tab) rfl tabT) hS mixed (inl_ok (l := []) rfl (by kernel_rfl)) _) mixed HdOK.id (by kernel_rfl) [Ty.bool] (res1 Ty.bool) (de1 (S := S) Ty.bool) fun cs r h => ?_
  obtain ⟨a0, rfl, h⟩ := inv1 h
  exact ⟨0, (ev_lodgerref04_May _ a0).trans h⟩
-- lodger/lodgerref05.May
def lodgerref05_May_s0b (g_lodgerref05_Many : Block → Option (Int)) (g_lodgerref04_May : Block → Option (Bool)) (k0 : Int → Conf → Option (Bool)) (s3 : Int) (m0 : Conf) : Option (Bool) := (bif (decide (s3 < (List.length m0.held : Int))) then ((geti m0.held s3).bind fun x2 => (bif (decide (x2 < 0)) then some false else ((geti m0.held s3).bind fun x3 => ((g_lodgerref05_Many m0.block).bind fun r4 => (bif (decide (x3 ≥ r4)) then some false else (bif (decide (s3 > 0)) then ((geti m0.held s3).bind fun x5 => ((geti m0.held (IntKind.wrap .i64 (s3 - 1))).bind fun x6 => (bif (decide (x5 ≤ x6)) then some false else k0 (IntKind.wrap .i64 (s3 + 1)) m0))) else k0 (IntKind.wrap .i64 (s3 + 1)) m0)))))) else some true)
def lodgerref05_May_eb (g_lodgerref05_Many : Block → Option (Int)) (g_lodgerref04_May : Block → Option (Bool)) (k0 : Int → Conf → Option (Bool)) (a0 : Conf) : Option (Bool) := ((g_lodgerref04_May a0.block).bind fun r1 => (bif (not r1) then some false else (bif (decide ((List.length a0.held : Int) > 64)) then some false else (bif (decide (a0.shards < 1)) then some false else (bif (decide (a0.shards > 64)) then some false else (bif (decide (a0.workers < 1)) then some false else (bif (decide (a0.workers > 64)) then some false else (bif (decide (a0.queue < 1)) then some false else (bif (decide (a0.queue > 64)) then some false else (bif (decide (a0.tries < 1)) then some false else (bif (decide (a0.tries > 8)) then some false else k0 0 a0)))))))))))
def sp_lodgerref05_May : Spec S := { args := [(Ty.st 1)], R := Bool, run := run1 (Ty.st 1) lodgerref05_May, enc := enc1 (S := S) Ty.bool }
def spb_lodgerref05_May (F : Conf → Option (Bool)) : Spec S := { args := [(Ty.st 1)], R := Bool, run := run1 (Ty.st 1) F, enc := enc1 (S := S) Ty.bool }
def usb_lodgerref05_May (g_lodgerref05_Many : Block → Option (Int)) (g_lodgerref04_May : Block → Option (Bool)) : List (Nat × Spec S) := [(24, spb_lodgerref05_Many g_lodgerref05_Many), (56, spb_lodgerref04_May g_lodgerref04_May)]
def us_lodgerref05_May : List (Nat × Spec S) := [(24, sp_lodgerref05_Many), (56, sp_lodgerref04_May)]
noncomputable def Cb_lodgerref05_May (g_lodgerref05_Many : Block → Option (Int)) (g_lodgerref04_May : Block → Option (Bool)) : Ctx S := { P := Tryd.prog, E := E, ty := tyL tab, G := glL gtab, spec := spL (usb_lodgerref05_May g_lodgerref05_Many g_lodgerref04_May), inl := inL [] }
noncomputable def C_lodgerref05_May : Ctx S := Cb_lodgerref05_May lodgerref05_Many lodgerref04_May
def hd_lodgerref05_May : List ((Nat × Nat) × List Hs) := [((2, 4), [.canon 1 [0] [1, 3], .plain 3 i64, .plainB 0 0 (Ty.st 1)])]
def h0_lodgerref05_May (s3 : Int) (m0 : Conf) : St S := { tmps := [.undef, .ptr 0 0, .undef, .cell i64 s3, .undef, .undef, .undef, .undef, .undef, .undef, .undef, .undef, .undef, .undef, .undef, .undef, .undef, .undef, .undef, .undef, .undef, .undef, .undef, .undef, .undef, .undef, .undef, .undef, .undef, .undef, .undef, .undef, .undef, .undef, .undef, .undef, .undef, .undef, .undef, .undef, .undef, .undef, .undef, .undef, .undef, .undef, .undef, .undef, .undef, .undef, .undef, .undef, .undef, .undef, .undef, .undef, .undef, .undef, .undef, .undef, .undef, .undef, .undef, .undef, .undef, .undef, .undef, .undef, .undef, .undef, .undef, .undef, .undef, .undef, .undef, .undef, .undef, .undef, .undef, .undef, .undef, .undef, .undef, .undef, .undef, .undef, .undef, .undef, .undef, .undef, .undef, .undef, .undef, .undef, .undef, .undef], mem := [.box [.cell u32 m0.block.base, .cell i64 m0.block.pre, .cell (Ty.slice i64) m0.held, .cell i64 m0.shards, .cell i64 m0.workers, .cell i64 m0.queue, .cell i64 m0.tries] false] }
theorem rdb0_lodgerref05_May (g_lodgerref05_Many : Block → Option (Int)) (g_lodgerref04_May : Block → Option (Bool)) (L : Lp S (Bool)) (s3 : Int) (m0 : Conf) : (roundWF (Cb_lodgerref05_May g_lodgerref05_Many g_lodgerref04_May) (clDF (Cb_lodgerref05_May g_lodgerref05_Many g_lodgerref04_May) 0) (hdOf (Cb_lodgerref05_May g_lodgerref05_Many g_lodgerref04_May) hd_lodgerref05_May) 23 0 [Ty.bool] (res1 Ty.bool) L (h0_lodgerref05_May s3 m0)).opt = lodgerref05_May_s0b g_lodgerref05_Many g_lodgerref04_May (fun s3 m0 => (L (todoOf (Cb_lodgerref05_May g_lodgerref05_Many g_lodgerref04_May) 23 0) (h0_lodgerref05_May s3 m0)).opt) s3 m0 := by kernel_rfl
theorem rd0_lodgerref05_May (L : Lp S (Bool)) (s3 : Int) (m0 : Conf) : (roundW C_lodgerref05_May (clD C_lodgerref05_May 0) (hdOf C_lodgerref05_May hd_lodgerref05_May) 23 0 [Ty.bool] (res1 Ty.bool) L (h0_lodgerref05_May s3 m0)).opt = lodgerref05_May_s0 (fun s3 m0 => (L (todoOf C_lodgerref05_May 23 0) (h0_lodgerref05_May s3 m0)).opt) s3 m0 := (congrArg D.opt (roundWF_eq _ _ _ _ _ _ _ L _)).trans (rdb0_lodgerref05_May lodgerref05_Many lodgerref04_May L s3 m0)
theorem enb_lodgerref05_May (g_lodgerref05_Many : Block → Option (Int)) (g_lodgerref04_May : Block → Option (Bool)) (L : Lp S (Bool)) (a0 : Conf) : (runWF (Cb_lodgerref05_May g_lodgerref05_Many g_lodgerref04_May) (clDF (Cb_lodgerref05_May g_lodgerref05_Many g_lodgerref04_May) 0) (fun _ => canonL (hdOf (Cb_lodgerref05_May g_lodgerref05_Many g_lodgerref04_May) hd_lodgerref05_May) L) 23 [Ty.bool] (res1 Ty.bool) [encV E (Ty.st 1) a0]).opt = lodgerref05_May_eb g_lodgerref05_Many g_lodgerref04_May (fun s3 m0 => (L (todoOf (Cb_lodgerref05_May g_lodgerref05_Many g_lodgerref04_May) 23 0) (h0_lodgerref05_May s3 m0)).opt) a0 := by kernel_rfl
theorem en_lodgerref05_May (L : Lp S (Bool)) (a0 : Conf) : (runW C_lodgerref05_May (clD C_lodgerref05_May 0) (fun _ => canonL (hdOf C_lodgerref05_May hd_lodgerref05_May) L) 23 [Ty.bool] (res1 Ty.bool) [encV E (Ty.st 1) a0]).opt = lodgerref05_May_e (fun s3 m0 => (L (todoOf C_lodgerref05_May 23 0) (h0_lodgerref05_May s3 m0)).opt) a0 := (congrArg D.opt (runWF_eq _ _ _ _ _ _ _)).trans (enb_lodgerref05_May lodgerref05_Many lodgerref04_May L a0)
theorem fx_lodgerref05_May : ∀ n, (∀ (s3 : Int) (m0 : Conf), (Lfix C_lodgerref05_May (clD C_lodgerref05_May 0) (hdOf C_lodgerref05_May hd_lodgerref05_May) (finW C_lodgerref05_May 23 [Ty.bool] (res1 Ty.bool)) n (todoOf C_lodgerref05_May 23 0) (h0_lodgerref05_May s3 m0)).opt = lodgerref05_May_l0 n s3 m0)
  | 0 => fun _ _ => rfl
  | n + 1 => by
    have ih := fx_lodgerref05_May n
    have e0 : (fun s3 m0 => (Lfix C_lodgerref05_May (clD C_lodgerref05_May 0) (hdOf C_lodgerref05_May hd_lodgerref05_May) (finW C_lodgerref05_May 23 [Ty.bool] (res1 Ty.bool)) n (todoOf C_lodgerref05_May 23 0) (h0_lodgerref05_May s3 m0)).opt) = lodgerref05_May_l0 n := funext fun s3 => funext fun m0 => ih s3 m0
    exact fun s3 m0 => (congrArg D.opt (Lfix_round C_lodgerref05_May (clD C_lodgerref05_May 0) (hdOf C_lodgerref05_May hd_lodgerref05_May) 23 0 [Ty.bool] (res1 Ty.bool) n _)).trans ((rd0_lodgerref05_May (Lfix C_lodgerref05_May (clD C_lodgerref05_May 0) (hdOf C_lodgerref05_May hd_lodgerref05_May) (finW C_lodgerref05_May 23 [Ty.bool] (res1 Ty.bool)) n) s3 m0).trans (congrArg (fun x => lodgerref05_May_s0  x  s3 m0) e0))
theorem ev_lodgerref05_May (n : Nat) (a0 : Conf) : (runF C_lodgerref05_May (clD C_lodgerref05_May 0) (hdOf C_lodgerref05_May hd_lodgerref05_May) 23 [Ty.bool] (res1 Ty.bool) n [encV E (Ty.st 1) a0]).opt = lodgerref05_May_n n a0 := by
  have ih := fx_lodgerref05_May n
  have e0 : (fun s3 m0 => (Lfix C_lodgerref05_May (clD C_lodgerref05_May 0) (hdOf C_lodgerref05_May hd_lodgerref05_May) (finW C_lodgerref05_May 23 [Ty.bool] (res1 Ty.bool)) n (todoOf C_lodgerref05_May 23 0) (h0_lodgerref05_May s3 m0)).opt) = lodgerref05_May_l0 n := funext fun s3 => funext fun m0 => ih s3 m0
  exact (congrArg D.opt (runF_eq C_lodgerref05_May (clD C_lodgerref05_May 0) (hdOf C_lodgerref05_May hd_lodgerref05_May) 23 [Ty.bool] (res1 Ty.bool) n _)).trans ((en_lodgerref05_May (Lfix C_lodgerref05_May (clD C_lodgerref05_May 0) (hdOf C_lodgerref05_May hd_lodgerref05_May) (finW C_lodgerref05_May 23 [Ty.bool] (res1 Ty.bool)) n) a0).trans (congrArg (fun x => lodgerref05_May_e  x  a0) e0))
theorem ok_lodgerref05_May : SpecOK C_lodgerref05_May 23 sp_lodgerref05_May := by
  have hS := specs_ok (C := C_lodgerref05_May) (l := us_lodgerref05_May) rfl ⟨ok_lodgerref05_Many.re rfl rfl rfl, ok_lodgerref04_May.re rfl rfl rfl, trivial⟩
  refine spec_ok (C := C_lodgerref05_May) (cl := (clD C_lodgerref05_May 0)) (hd := (hdOf C_lodgerref05_May hd_lodgerref05_May)) envOK (tyOK_of (l := tab) rfl tabT) hS (clD_ok envOK (tyOK_of (l := tab) rfl tabT) hS mixed (inl_ok (l := []) rfl (by kernel_rfl)) _) mixed (hdOf_ok envOK hd_lodgerref05_May) (by kernel_rfl) [Ty.bool] (res1 Ty.bool) (de1 (S := S) Ty.bool) fun cs r h => ?_
  obtain ⟨a0, rfl, h⟩ := inv1 h
  exact ⟨big, (ev_lodgerref05_May big a0).trans ((def_lodgerref05_May a0).symm.trans h)⟩
-- lodger/lodgerref17.Small
def lodgerref17_Small_b (g_lodgerref05_May : Conf → Option (Bool)) (g_lodgerref05_Many : Block → Option (Int)) (a0 : Conf) : Option (Bool) := ((g_lodgerref05_May a0).bind fun r1 => (bif r1 then ((g_lodgerref05_Many a0.block).bind fun r2 => some (decide (r2 ≤ 256))) else some false))
def sp_lodgerref17_Small : Spec S := { args := [(Ty.st 1)], R := Bool, run := run1 (Ty.st 1) lodgerref17_Small, enc := enc1 (S := S) Ty.bool }
def spb_lodgerref17_Small (F : Conf → Option (Bool)) : Spec S := { args := [(Ty.st 1)], R := Bool, run := run1 (Ty.st 1) F, enc := enc1 (S := S) Ty.bool }
def usb_lodgerref17_Small (g_lodgerref05_May : Conf → Option (Bool)) (g_lodgerref05_Many : Block → Option (Int)) : List (Nat × Spec S) := [(23, spb_lodgerref05_May g_lodgerref05_May), (24, spb_lodgerref05_Many g_lodgerref05_Many)]
def us_lodgerref17_Small : List (Nat × Spec S) := [(23, sp_lodgerref05_May), (24, sp_lodgerref05_Many)]
noncomputable def Cb_lodgerref17_Small (g_lodgerref05_May : Conf → Option (Bool)) (g_lodgerref05_Many : Block → Option (Int)) : Ctx S := { P := Tryd.prog, E := E, ty := tyL tab, G := glL gtab, spec := spL (usb_lodgerref17_Small g_lodgerref05_May g_lodgerref05_Many), inl := inL [] }
noncomputable def C_lodgerref17_Small : Ctx S := Cb_lodgerref17_Small lodgerref05_May lodgerref05_Many
theorem evb_lodgerref17_Small (g_lodgerref05_May : Conf → Option (Bool)) (g_lodgerref05_Many : Block → Option (Int)) (L : (St S → D (Bool)) → Lp S (Bool)) (a0 : Conf) : (runWF (Cb_lodgerref17_Small g_lodgerref05_May g_lodgerref05_Many) (clDF (Cb_lodgerref17_Small g_lodgerref05_May g_lodgerref05_Many) 0) L 8 [Ty.bool] (res1 Ty.bool) [encV E (Ty.st 1) a0]).opt = lodgerref17_Small_b g_lodgerref05_May g_lodgerref05_Many a0 := by kernel_rfl
theorem ev_lodgerref17_Small (L : (St S → D (Bool)) → Lp S (Bool)) (a0 : Conf) : (runW C_lodgerref17_Small (clD C_lodgerref17_Small 0) L 8 [Ty.bool] (res1 Ty.bool) [encV E (Ty.st 1) a0]).opt = lodgerref17_Small a0 := (congrArg D.opt (runWF_eq _ _ L _ _ _ _)).trans (evb_lodgerref17_Small lodgerref05_May lodgerref05_Many L a0)
theorem ok_lodgerref17_Small : SpecOK C_lodgerref17_Small 8 sp_lodgerref17_Small := by
  have hS := specs_ok (C := C_lodgerref17_Small) (l := us_lodgerref17_Small) rfl ⟨ok_lodgerref05_May.re rfl rfl rfl, ok_lodgerref05_Many.re rfl rfl rfl, trivial⟩
  refine spec_ok (C := C_lodgerref17_Small) (cl := (clD C_lodgerref17_Small 0)) (hd := (fun _ s => some s)) envOK (tyOK_of (l := tab) rfl tabT) hS (clD_ok envOK (tyOK_of (l := tab) rfl tabT) hS mixed (inl_ok (l := []) rfl (by kernel_rfl)) _) mixed HdOK.id (by kernel_rfl) [Ty.bool] (res1 Ty.bool) (de1 (S := S) Ty.bool) fun cs r h => ?_
  obtain ⟨a0, rfl, h⟩ := inv1 h
  exact ⟨0, (ev_lodgerref17_Small _ a0).trans h⟩
-- lodger/lodgerref10.Few
def lodgerref10_Few_b  (a0 : Ask) : Option (Bool) := some (decide ((List.length a0.addrs : Int) ≤ 100))
def sp_lodgerref10_Few : Spec S := { args := [(Ty.st 2)], R := Bool, run := run1 (Ty.st 2) lodgerref10_Few, enc := enc1 (S := S) Ty.bool }
def spb_lodgerref10_Few (F : Ask → Option (Bool)) : Spec S := { args := [(Ty.st 2)], R := Bool, run := run1 (Ty.st 2) F, enc := enc1 (S := S) Ty.bool }
def usb_lodgerref10_Few  : List (Nat × Spec S) := []
def us_lodgerref10_Few : List (Nat × Spec S) := []
noncomputable def Cb_lodgerref10_Few  : Ctx S := { P := Tryd.prog, E := E, ty := tyL tab, G := glL gtab, spec := spL (usb_lodgerref10_Few ), inl := inL [] }
noncomputable def C_lodgerref10_Few : Ctx S := Cb_lodgerref10_Few 
theorem evb_lodgerref10_Few  (L : (St S → D (Bool)) → Lp S (Bool)) (a0 : Ask) : (runWF (Cb_lodgerref10_Few ) (clDF (Cb_lodgerref10_Few ) 0) L 9 [Ty.bool] (res1 Ty.bool) [encV E (Ty.st 2) a0]).opt = lodgerref10_Few_b  a0 := by kernel_rfl
theorem ev_lodgerref10_Few (L : (St S → D (Bool)) → Lp S (Bool)) (a0 : Ask) : (runW C_lodgerref10_Few (clD C_lodgerref10_Few 0) L 9 [Ty.bool] (res1 Ty.bool) [encV E (Ty.st 2) a0]).opt = lodgerref10_Few a0 := (congrArg D.opt (runWF_eq _ _ L _ _ _ _)).trans (evb_lodgerref10_Few  L a0)
theorem ok_lodgerref10_Few : SpecOK C_lodgerref10_Few 9 sp_lodgerref10_Few := by
  have hS := specs_ok (C := C_lodgerref10_Few) (l := us_lodgerref10_Few) rfl trivial
  refine spec_ok (C := C_lodgerref10_Few) (cl := (clD C_lodgerref10_Few 0)) (hd := (fun _ s => some s)) envOK (tyOK_of (l := tab) rfl tabT) hS (clD_ok envOK (tyOK_of (l := tab) rfl tabT) hS mixed (inl_ok (l := []) rfl (by kernel_rfl)) _) mixed HdOK.id (by kernel_rfl) [Ty.bool] (res1 Ty.bool) (de1 (S := S) Ty.bool) fun cs r h => ?_
  obtain ⟨a0, rfl, h⟩ := inv1 h
  exact ⟨0, (ev_lodgerref10_Few _ a0).trans h⟩
-- lodger/lodgerref05.Held
def lodgerref05_Held_s0b  (k0 : Int → Int → Conf → Option (Bool)) (s1 : Int) (s5 : Int) (m0 : Conf) : Option (Bool) := (bif (decide (s5 < (List.length m0.held : Int))) then ((geti m0.held s5).bind fun x1 => (bif (x1 == s1) then some true else k0 s1 (IntKind.wrap .i64 (s5 + 1)) m0)) else some false)
def lodgerref05_Held_eb  (k0 : Int → Int → Conf → Option (Bool)) (a0 : Conf) (a1 : Int) : Option (Bool) := k0 a1 0 a0
def sp_lodgerref05_Held : Spec S := { args := [(Ty.st 1), i64], R := Bool, run := run2 (Ty.st 1) i64 lodgerref05_Held, enc := enc1 (S := S) Ty.bool }
def spb_lodgerref05_Held (F : Conf → Int → Option (Bool)) : Spec S := { args := [(Ty.st 1), i64], R := Bool, run := run2 (Ty.st 1) i64 F, enc := enc1 (S := S) Ty.bool }
def usb_lodgerref05_Held  : List (Nat × Spec S) := []
def us_lodgerref05_Held : List (Nat × Spec S) := []
noncomputable def Cb_lodgerref05_Held  : Ctx S := { P := Tryd.prog, E := E, ty := tyL tab, G := glL gtab, spec := spL (usb_lodgerref05_Held ), inl := inL [] }
noncomputable def C_lodgerref05_Held : Ctx S := Cb_lodgerref05_Held 
def hd_lodgerref05_Held : List ((Nat × Nat) × List Hs) := [((2, 2), [.canon 1 [0] [1, 2, 5], .plain 1 i64, .plain 5 i64, .plainB 0 0 (Ty.st 1)])]
def h0_lodgerref05_Held (s1 : Int) (s5 : Int) (m0 : Conf) : St S := { tmps := [.undef, .cell i64 s1, .ptr 0 0, .undef, .undef, .cell i64 s5, .undef, .undef, .undef, .undef, .undef, .undef, .undef, .undef, .undef, .undef, .undef, .undef, .undef, .undef], mem := [.box [.cell u32 m0.block.base, .cell i64 m0.block.pre, .cell (Ty.slice i64) m0.held, .cell i64 m0.shards, .cell i64 m0.workers, .cell i64 m0.queue, .cell i64 m0.tries] false] }
theorem rdb0_lodgerref05_Held  (L : Lp S (Bool)) (s1 : Int) (s5 : Int) (m0 : Conf) : (roundWF (Cb_lodgerref05_Held ) (clDF (Cb_lodgerref05_Held ) 0) (hdOf (Cb_lodgerref05_Held ) hd_lodgerref05_Held) 35 0 [Ty.bool] (res1 Ty.bool) L (h0_lodgerref05_Held s1 s5 m0)).opt = lodgerref05_Held_s0b  (fun s1 s5 m0 => (L (todoOf (Cb_lodgerref05_Held ) 35 0) (h0_lodgerref05_Held s1 s5 m0)).opt) s1 s5 m0 := by kernel_rfl
theorem rd0_lodgerref05_Held (L : Lp S (Bool)) (s1 : Int) (s5 : Int) (m0 : Conf) : (roundW C_lodgerref05_Held (clD C_lodgerref05_Held 0) (hdOf C_lodgerref05_Held hd_lodgerref05_Held) 35 0 [Ty.bool] (res1 Ty.bool) L (h0_lodgerref05_Held s1 s5 m0)).opt = lodgerref05_Held_s0 (fun s1 s5 m0 => (L (todoOf C_lodgerref05_Held 35 0) (h0_lodgerref05_Held s1 s5 m0)).opt) s1 s5 m0 := (congrArg D.opt (roundWF_eq _ _ _ _ _ _ _ L _)).trans (rdb0_lodgerref05_Held  L s1 s5 m0)
theorem enb_lodgerref05_Held  (L : Lp S (Bool)) (a0 : Conf) (a1 : Int) : (runWF (Cb_lodgerref05_Held ) (clDF (Cb_lodgerref05_Held ) 0) (fun _ => canonL (hdOf (Cb_lodgerref05_Held ) hd_lodgerref05_Held) L) 35 [Ty.bool] (res1 Ty.bool) [encV E (Ty.st 1) a0, encV E i64 a1]).opt = lodgerref05_Held_eb  (fun s1 s5 m0 => (L (todoOf (Cb_lodgerref05_Held ) 35 0) (h0_lodgerref05_Held s1 s5 m0)).opt) a0 a1 := by kernel_rfl
theorem en_lodgerref05_Held (L : Lp S (Bool)) (a0 : Conf) (a1 : Int) : (runW C_lodgerref05_Held (clD C_lodgerref05_Held 0) (fun _ => canonL (hdOf C_lodgerref05_Held hd_lodgerref05_Held) L) 35 [Ty.bool] (res1 Ty.bool) [encV E (Ty.st 1) a0, encV E i64 a1]).opt = lodgerref05_Held_e (fun s1 s5 m0 => (L (todoOf C_lodgerref05_Held 35 0) (h0_lodgerref05_Held s1 s5 m0)).opt) a0 a1 := (congrArg D.opt (runWF_eq _ _ _ _ _ _ _)).trans (enb_lodgerref05_Held  L a0 a1)
theorem fx_lodgerref05_Held : ∀ n, (∀ (s1 : Int) (s5 : Int) (m0 : Conf), (Lfix C_lodgerref05_Held (clD C_lodgerref05_Held 0) (hdOf C_lodgerref05_Held hd_lodgerref05_Held) (finW C_lodgerref05_Held 35 [Ty.bool] (res1 Ty.bool)) n (todoOf C_lodgerref05_Held 35 0) (h0_lodgerref05_Held s1 s5 m0)).opt = lodgerref05_Held_l0 n s1 s5 m0)
  | 0 => fun _ _ _ => rfl
  | n + 1 => by
    have ih := fx_lodgerref05_Held n
    have e0 : (fun s1 s5 m0 => (Lfix C_lodgerref05_Held (clD C_lodgerref05_Held 0) (hdOf C_lodgerref05_Held hd_lodgerref05_Held) (finW C_lodgerref05_Held 35 [Ty.bool] (res1 Ty.bool)) n (todoOf C_lodgerref05_Held 35 0) (h0_lodgerref05_Held s1 s5 m0)).opt) = lodgerref05_Held_l0 n := funext fun s1 => funext fun s5 => funext fun m0 => ih s1 s5 m0
    exact fun s1 s5 m0 => (congrArg D.opt (Lfix_round C_lodgerref05_Held (clD C_lodgerref05_Held 0) (hdOf C_lodgerref05_Held hd_lodgerref05_Held) 35 0 [Ty.bool] (res1 Ty.bool) n _)).trans ((rd0_lodgerref05_Held (Lfix C_lodgerref05_Held (clD C_lodgerref05_Held 0) (hdOf C_lodgerref05_Held hd_lodgerref05_Held) (finW C_lodgerref05_Held 35 [Ty.bool] (res1 Ty.bool)) n) s1 s5 m0).trans (congrArg (fun x => lodgerref05_Held_s0  x  s1 s5 m0) e0))
theorem ev_lodgerref05_Held (n : Nat) (a0 : Conf) (a1 : Int) : (runF C_lodgerref05_Held (clD C_lodgerref05_Held 0) (hdOf C_lodgerref05_Held hd_lodgerref05_Held) 35 [Ty.bool] (res1 Ty.bool) n [encV E (Ty.st 1) a0, encV E i64 a1]).opt = lodgerref05_Held_n n a0 a1 := by
  have ih := fx_lodgerref05_Held n
  have e0 : (fun s1 s5 m0 => (Lfix C_lodgerref05_Held (clD C_lodgerref05_Held 0) (hdOf C_lodgerref05_Held hd_lodgerref05_Held) (finW C_lodgerref05_Held 35 [Ty.bool] (res1 Ty.bool)) n (todoOf C_lodgerref05_Held 35 0) (h0_lodgerref05_Held s1 s5 m0)).opt) = lodgerref05_Held_l0 n := funext fun s1 => funext fun s5 => funext fun m0 => ih s1 s5 m0
  exact (congrArg D.opt (runF_eq C_lodgerref05_Held (clD C_lodgerref05_Held 0) (hdOf C_lodgerref05_Held hd_lodgerref05_Held) 35 [Ty.bool] (res1 Ty.bool) n _)).trans ((en_lodgerref05_Held (Lfix C_lodgerref05_Held (clD C_lodgerref05_Held 0) (hdOf C_lodgerref05_Held hd_lodgerref05_Held) (finW C_lodgerref05_Held 35 [Ty.bool] (res1 Ty.bool)) n) a0 a1).trans (congrArg (fun x => lodgerref05_Held_e  x  a0 a1) e0))
theorem ok_lodgerref05_Held : SpecOK C_lodgerref05_Held 35 sp_lodgerref05_Held := by
  have hS := specs_ok (C := C_lodgerref05_Held) (l := us_lodgerref05_Held) rfl trivial
  refine spec_ok (C := C_lodgerref05_Held) (cl := (clD C_lodgerref05_Held 0)) (hd := (hdOf C_lodgerref05_Held hd_lodgerref05_Held)) envOK (tyOK_of (l := tab) rfl tabT) hS (clD_ok envOK (tyOK_of (l := tab) rfl tabT) hS mixed (inl_ok (l := []) rfl (by kernel_rfl)) _) mixed (hdOf_ok envOK hd_lodgerref05_Held) (by kernel_rfl) [Ty.bool] (res1 Ty.bool) (de1 (S := S) Ty.bool) fun cs r h => ?_
  obtain ⟨a0, a1, rfl, h⟩ := inv2 h
  exact ⟨big, (ev_lodgerref05_Held big a0 a1).trans ((def_lodgerref05_Held a0 a1).symm.trans h)⟩
-- lodger/lodgerref05.Offset
def lodgerref05_Offset_b (g_lodgerref05_Many : Block → Option (Int)) (a0 : Block) (a1 : Int) : Option (Int × Int) := (bif (decide (a1 < a0.base)) then some (0, 3) else ((g_lodgerref05_Many a0).bind fun r1 => (bif (decide ((IntKind.wrap .i64 (IntKind.wrap .u32 (a1 - a0.base))) ≥ r1)) then some (0, 3) else some ((IntKind.wrap .i64 (IntKind.wrap .u32 (a1 - a0.base))), 0))))
def sp_lodgerref05_Offset : Spec S := { args := [(Ty.st 0), u32], R := Int × Int, run := run2 (Ty.st 0) u32 lodgerref05_Offset, enc := enc2 (S := S) i64 i64 }
def spb_lodgerref05_Offset (F : Block → Int → Option (Int × Int)) : Spec S := { args := [(Ty.st 0), u32], R := Int × Int, run := run2 (Ty.st 0) u32 F, enc := enc2 (S := S) i64 i64 }
def usb_lodgerref05_Offset (g_lodgerref05_Many : Block → Option (Int)) : List (Nat × Spec S) := [(24, spb_lodgerref05_Many g_lodgerref05_Many)]
def us_lodgerref05_Offset : List (Nat × Spec S) := [(24, sp_lodgerref05_Many)]
noncomputable def Cb_lodgerref05_Offset (g_lodgerref05_Many : Block → Option (Int)) : Ctx S := { P := Tryd.prog, E := E, ty := tyL tab, G := glL gtab, spec := spL (usb_lodgerref05_Offset g_lodgerref05_Many), inl := inL [] }
noncomputable def C_lodgerref05_Offset : Ctx S := Cb_lodgerref05_Offset lodgerref05_Many
theorem evb_lodgerref05_Offset (g_lodgerref05_Many : Block → Option (Int)) (L : (St S → D (Int × Int)) → Lp S (Int × Int)) (a0 : Block) (a1 : Int) : (runWF (Cb_lodgerref05_Offset g_lodgerref05_Many) (clDF (Cb_lodgerref05_Offset g_lodgerref05_Many) 0) L 44 [i64, i64] (res2 i64 i64) [encV E (Ty.st 0) a0, encV E u32 a1]).opt = lodgerref05_Offset_b g_lodgerref05_Many a0 a1 := by kernel_rfl
theorem ev_lodgerref05_Offset (L : (St S → D (Int × Int)) → Lp S (Int × Int)) (a0 : Block) (a1 : Int) : (runW C_lodgerref05_Offset (clD C_lodgerref05_Offset 0) L 44 [i64, i64] (res2 i64 i64) [encV E (Ty.st 0) a0, encV E u32 a1]).opt = lodgerref05_Offset a0 a1 := (congrArg D.opt (runWF_eq _ _ L _ _ _ _)).trans (evb_lodgerref05_Offset lodgerref05_Many L a0 a1)
theorem ok_lodgerref05_Offset : SpecOK C_lodgerref05_Offset 44 sp_lodgerref05_Offset := by
  have hS := specs_ok (C := C_lodgerref05_Offset) (l := us_lodgerref05_Offset) rfl ⟨ok_lodgerref05_Many.re rfl rfl rfl, trivial⟩
  refine spec_ok (C := C_lodgerref05_Offset) (cl := (clD C_lodgerref05_Offset 0)) (hd := (fun _ s => some s)) envOK (tyOK_of (l := tab) rfl tabT) hS (clD_ok envOK (tyOK_of (l := tab) rfl tabT) hS mixed (inl_ok (l := []) rfl (by kernel_rfl)) _) mixed HdOK.id (by kernel_rfl) [i64, i64] (res2 i64 i64) (de2 (S := S) i64 i64) fun cs r h => ?_
  obtain ⟨a0, a1, rfl, h⟩ := inv2 h
  exact ⟨0, (ev_lodgerref05_Offset _ a0 a1).trans h⟩
-- lodger/lodgerref05.Find
def lodgerref05_Find_b (g_lodgerref05_Held : Conf → Int → Option (Bool)) (g_lodgerref05_Offset : Block → Int → Option (Int × Int)) (a0 : Conf) (a1 : Int) : Option (Int × Int) := ((g_lodgerref05_Offset a0.block a1).bind fun r1 => (bif (r1.2 != 0) then some (0, 3) else ((g_lodgerref05_Held a0 r1.1).bind fun r2 => (bif r2 then some (0, 4) else some (r1.1, 0)))))
def sp_lodgerref05_Find : Spec S := { args := [(Ty.st 1), u32], R := Int × Int, run := run2 (Ty.st 1) u32 lodgerref05_Find, enc := enc2 (S := S) i64 i64 }
def spb_lodgerref05_Find (F : Conf → Int → Option (Int × Int)) : Spec S := { args := [(Ty.st 1), u32], R := Int × Int, run := run2 (Ty.st 1) u32 F, enc := enc2 (S := S) i64 i64 }
def usb_lodgerref05_Find (g_lodgerref05_Held : Conf → Int → Option (Bool)) (g_lodgerref05_Offset : Block → Int → Option (Int × Int)) : List (Nat × Spec S) := [(35, spb_lodgerref05_Held g_lodgerref05_Held), (44, spb_lodgerref05_Offset g_lodgerref05_Offset)]
def us_lodgerref05_Find : List (Nat × Spec S) := [(35, sp_lodgerref05_Held), (44, sp_lodgerref05_Offset)]
noncomputable def Cb_lodgerref05_Find (g_lodgerref05_Held : Conf → Int → Option (Bool)) (g_lodgerref05_Offset : Block → Int → Option (Int × Int)) : Ctx S := { P := Tryd.prog, E := E, ty := tyL tab, G := glL gtab, spec := spL (usb_lodgerref05_Find g_lodgerref05_Held g_lodgerref05_Offset), inl := inL [] }
noncomputable def C_lodgerref05_Find : Ctx S := Cb_lodgerref05_Find lodgerref05_Held lodgerref05_Offset
theorem evb_lodgerref05_Find (g_lodgerref05_Held : Conf → Int → Option (Bool)) (g_lodgerref05_Offset : Block → Int → Option (Int × Int)) (L : (St S → D (Int × Int)) → Lp S (Int × Int)) (a0 : Conf) (a1 : Int) : (runWF (Cb_lodgerref05_Find g_lodgerref05_Held g_lodgerref05_Offset) (clDF (Cb_lodgerref05_Find g_lodgerref05_Held g_lodgerref05_Offset) 0) L 47 [i64, i64] (res2 i64 i64) [encV E (Ty.st 1) a0, encV E u32 a1]).opt = lodgerref05_Find_b g_lodgerref05_Held g_lodgerref05_Offset a0 a1 := by kernel_rfl
theorem ev_lodgerref05_Find (L : (St S → D (Int × Int)) → Lp S (Int × Int)) (a0 : Conf) (a1 : Int) : (runW C_lodgerref05_Find (clD C_lodgerref05_Find 0) L 47 [i64, i64] (res2 i64 i64) [encV E (Ty.st 1) a0, encV E u32 a1]).opt = lodgerref05_Find a0 a1 := (congrArg D.opt (runWF_eq _ _ L _ _ _ _)).trans (evb_lodgerref05_Find lodgerref05_Held lodgerref05_Offset L a0 a1)
theorem ok_lodgerref05_Find : SpecOK C_lodgerref05_Find 47 sp_lodgerref05_Find := by
  have hS := specs_ok (C := C_lodgerref05_Find) (l := us_lodgerref05_Find) rfl ⟨ok_lodgerref05_Held.re rfl rfl rfl, ok_lodgerref05_Offset.re rfl rfl rfl, trivial⟩
  refine spec_ok (C := C_lodgerref05_Find) (cl := (clD C_lodgerref05_Find 0)) (hd := (fun _ s => some s)) envOK (tyOK_of (l := tab) rfl tabT) hS (clD_ok envOK (tyOK_of (l := tab) rfl tabT) hS mixed (inl_ok (l := []) rfl (by kernel_rfl)) _) mixed HdOK.id (by kernel_rfl) [i64, i64] (res2 i64 i64) (de2 (S := S) i64 i64) fun cs r h => ?_
  obtain ⟨a0, a1, rfl, h⟩ := inv2 h
  exact ⟨0, (ev_lodgerref05_Find _ a0 a1).trans h⟩
-- lodger/lodgerref10.Names
def lodgerref10_Names_b  (a0 : Ask) : Option ((List Int)) := (bif (a0.kind == 2) then some ([a0.addr] : List Int) else (bif (a0.kind == 3) then some ([a0.addr] : List Int) else (bif (a0.kind == 5) then some ([a0.addr] : List Int) else (bif (a0.kind == 4) then (bif (decide (a0.addrs.length ≤ maxList)) then some a0.addrs else none) else some []))))
def sp_lodgerref10_Names : Spec S := { args := [(Ty.st 2)], R := (List Int), run := run1 (Ty.st 2) lodgerref10_Names, enc := enc1 (S := S) (Ty.slice u32) }
def spb_lodgerref10_Names (F : Ask → Option ((List Int))) : Spec S := { args := [(Ty.st 2)], R := (List Int), run := run1 (Ty.st 2) F, enc := enc1 (S := S) (Ty.slice u32) }
def usb_lodgerref10_Names  : List (Nat × Spec S) := []
def us_lodgerref10_Names : List (Nat × Spec S) := []
noncomputable def Cb_lodgerref10_Names  : Ctx S := { P := Tryd.prog, E := E, ty := tyL tab, G := glL gtab, spec := spL (usb_lodgerref10_Names ), inl := inL [] }
noncomputable def C_lodgerref10_Names : Ctx S := Cb_lodgerref10_Names 
theorem evb_lodgerref10_Names  (L : (St S → D ((List Int))) → Lp S ((List Int))) (a0 : Ask) : (runWF (Cb_lodgerref10_Names ) (clDF (Cb_lodgerref10_Names ) 0) L 51 [(Ty.slice u32)] (res1 (Ty.slice u32)) [encV E (Ty.st 2) a0]).opt = lodgerref10_Names_b  a0 := by kernel_rfl
theorem ev_lodgerref10_Names (L : (St S → D ((List Int))) → Lp S ((List Int))) (a0 : Ask) : (runW C_lodgerref10_Names (clD C_lodgerref10_Names 0) L 51 [(Ty.slice u32)] (res1 (Ty.slice u32)) [encV E (Ty.st 2) a0]).opt = lodgerref10_Names a0 := (congrArg D.opt (runWF_eq _ _ L _ _ _ _)).trans (evb_lodgerref10_Names  L a0)
theorem ok_lodgerref10_Names : SpecOK C_lodgerref10_Names 51 sp_lodgerref10_Names := by
  have hS := specs_ok (C := C_lodgerref10_Names) (l := us_lodgerref10_Names) rfl trivial
  refine spec_ok (C := C_lodgerref10_Names) (cl := (clD C_lodgerref10_Names 0)) (hd := (fun _ s => some s)) envOK (tyOK_of (l := tab) rfl tabT) hS (clD_ok envOK (tyOK_of (l := tab) rfl tabT) hS mixed (inl_ok (l := []) rfl (by kernel_rfl)) _) mixed HdOK.id (by kernel_rfl) [(Ty.slice u32)] (res1 (Ty.slice u32)) (de1 (S := S) (Ty.slice u32)) fun cs r h => ?_
  obtain ⟨a0, rfl, h⟩ := inv1 h
  exact ⟨0, (ev_lodgerref10_Names _ a0).trans h⟩
end Go.Lv.Ld
