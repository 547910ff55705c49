import Derived.Shelf.Lay
import Derived.Ground.NamesProg
import Derived.Shelf.Strings.BuilderX
import Derived.Test.YtolndkmjmlgcpaaDoorF
import Derived.Test.YtolndkmjmlgcpaaDoorChecked
import Derived.Test.YtolndkmjmlgcpaaDoorE
namespace Go.Lv.Ld
open Go Go.Lv Go.Proofs
set_option linter.all false
set_option maxRecDepth 100000
def gtab : List (Nat × List (V S)) := [(3, [.cell Ty.err true]), (4, [.cell Ty.err true]), (5, [.cell u64 (1 : Int), .cell u64 (10 : Int), .cell u64 (100 : Int), .cell u64 (1000 : Int), .cell u64 (10000 : Int), .cell u64 (100000 : Int), .cell u64 (1000000 : Int), .cell u64 (10000000 : Int), .cell u64 (100000000 : Int), .cell u64 (1000000000 : Int), .cell u64 (10000000000 : Int), .cell u64 (100000000000 : Int), .cell u64 (1000000000000 : Int), .cell u64 (10000000000000 : Int), .cell u64 (100000000000000 : Int), .cell u64 (1000000000000000 : Int), .cell u64 (10000000000000000 : Int), .cell u64 (100000000000000000 : Int), .cell u64 (1000000000000000000 : Int), .cell u64 (10000000000000000000 : Int)])]
def tab : List (Nat × Ty) := [(2, i64), (3, i64), (4, Ty.bool), (5, (Ty.int .u8)), (6, (Ty.int .u8)), (9, Ty.str), (10, Ty.str), (11, Ty.str), (12, u64), (21, (Ty.int .i32)), (22, (Ty.slice (Ty.st 6))), (25, i64), (37, u32), (38, (Ty.slice u32)), (39, (Ty.slice i64)), (41, (Ty.st 3)), (43, (Ty.st 6)), (46, (Ty.slice (Ty.st 3))), (49, (Ty.slice (Ty.int .u8))), (52, Ty.err), (53, Ty.err), (68, (Ty.slice Ty.str)), (69, (Ty.slice i64)), (90, u64), (103, i64), (110, u64), (147, (Ty.int .u8)), (148, (Ty.int .u8)), (150, (Ty.int .i32)), (151, (Ty.int .i32))]
theorem tabT : tab.all (tyB Tryd.prog E) = true := by kernel_rfl
theorem tabF : tab.all (tabB Tryd.prog E (tyL tab)) = true := by kernel_rfl
theorem mixed : Tryd.prog.follows .mixedOrders = true := Checked.mixed Tryd.checked
-- lodger/tell.fit
def tell_fit_b  (a0 : Int) : Option (Bool) := (bif (decide (a0 ≥ 0)) then some (decide (a0 ≤ 1099511627776)) else some false)
def sp_tell_fit : Spec S := { args := [i64], R := Bool, run := run1 i64 tell_fit, enc := enc1 (S := S) Ty.bool }
def spb_tell_fit (F : Int → Option (Bool)) : Spec S := { args := [i64], R := Bool, run := run1 i64 F, enc := enc1 (S := S) Ty.bool }
def usb_tell_fit  : List (Nat × Spec S) := []
def us_tell_fit : List (Nat × Spec S) := []
noncomputable def Cb_tell_fit  : Ctx S := { P := Tryd.prog, E := E, ty := tyL tab, G := glL gtab, spec := spL (usb_tell_fit ), inl := inL [] }
noncomputable def C_tell_fit : Ctx S := Cb_tell_fit 
theorem evb_tell_fit  (L : (St S → D (Bool)) → Lp S (Bool)) (a0 : Int) : (runWF (Cb_tell_fit ) (clDF (Cb_tell_fit ) 0) L 46 [Ty.bool] (res1 Ty.bool) [encV E i64 a0]).opt = tell_fit_b  a0 := by kernel_rfl
theorem ev_tell_fit (L : (St S → D (Bool)) → Lp S (Bool)) (a0 : Int) : (runW C_tell_fit (clD C_tell_fit 0) L 46 [Ty.bool] (res1 Ty.bool) [encV E i64 a0]).opt = tell_fit a0 := (congrArg D.opt (runWF_eq _ _ L _ _ _ _)).trans (evb_tell_fit  L a0)
theorem ok_tell_fit : SpecOK C_tell_fit 46 sp_tell_fit := by
  have hS := specs_ok (C := C_tell_fit) (l := us_tell_fit) rfl trivial
  refine spec_ok (C := C_tell_fit) (cl := (clD C_tell_fit 0)) (hd := (fun _ s => some s)) envOK (tyOK_of (l := tab) rfl tabT) hS (clD_ok envOK (tyOK_of (l := tab) rfl tabT) hS mixed (inl_ok (l := []) rfl (by kernel_rfl)) _) mixed HdOK.id (by kernel_rfl) [Ty.bool] (res1 Ty.bool) (de1 (S := S) Ty.bool) fun cs r h => ?_
  obtain ⟨a0, rfl, h⟩ := inv1 h
  exact ⟨0, (ev_tell_fit _ a0).trans h⟩
-- lodger/tell.err
def tell_err_b  (a0 : Int) : Option (Bool) := (bif (decide (a0 ≥ 0)) then some (decide (a0 ≤ 12)) else some false)
def sp_tell_err : Spec S := { args := [i64], R := Bool, run := run1 i64 tell_err, enc := enc1 (S := S) Ty.bool }
def spb_tell_err (F : Int → Option (Bool)) : Spec S := { args := [i64], R := Bool, run := run1 i64 F, enc := enc1 (S := S) Ty.bool }
def usb_tell_err  : List (Nat × Spec S) := []
def us_tell_err : List (Nat × Spec S) := []
noncomputable def Cb_tell_err  : Ctx S := { P := Tryd.prog, E := E, ty := tyL tab, G := glL gtab, spec := spL (usb_tell_err ), inl := inL [] }
noncomputable def C_tell_err : Ctx S := Cb_tell_err 
theorem evb_tell_err  (L : (St S → D (Bool)) → Lp S (Bool)) (a0 : Int) : (runWF (Cb_tell_err ) (clDF (Cb_tell_err ) 0) L 47 [Ty.bool] (res1 Ty.bool) [encV E i64 a0]).opt = tell_err_b  a0 := by kernel_rfl
theorem ev_tell_err (L : (St S → D (Bool)) → Lp S (Bool)) (a0 : Int) : (runW C_tell_err (clD C_tell_err 0) L 47 [Ty.bool] (res1 Ty.bool) [encV E i64 a0]).opt = tell_err a0 := (congrArg D.opt (runWF_eq _ _ L _ _ _ _)).trans (evb_tell_err  L a0)
theorem ok_tell_err : SpecOK C_tell_err 47 sp_tell_err := by
  have hS := specs_ok (C := C_tell_err) (l := us_tell_err) rfl trivial
  refine spec_ok (C := C_tell_err) (cl := (clD C_tell_err 0)) (hd := (fun _ s => some s)) envOK (tyOK_of (l := tab) rfl tabT) hS (clD_ok envOK (tyOK_of (l := tab) rfl tabT) hS mixed (inl_ok (l := []) rfl (by kernel_rfl)) _) mixed HdOK.id (by kernel_rfl) [Ty.bool] (res1 Ty.bool) (de1 (S := S) Ty.bool) fun cs r h => ?_
  obtain ⟨a0, rfl, h⟩ := inv1 h
  exact ⟨0, (ev_tell_err _ a0).trans h⟩
-- lodger/tell.may$1
def tell_may_1_b (g_tell_err : Int → Option (Bool)) (a0 : Int) : Option (Bool) := ((g_tell_err a0).bind fun r1 => some (not r1))
def sp_tell_may_1 : Spec S := { args := [i64], R := Bool, run := run1 i64 tell_may_1, enc := enc1 (S := S) Ty.bool }
def spb_tell_may_1 (F : Int → Option (Bool)) : Spec S := { args := [i64], R := Bool, run := run1 i64 F, enc := enc1 (S := S) Ty.bool }
def usb_tell_may_1 (g_tell_err : Int → Option (Bool)) : List (Nat × Spec S) := [(47, spb_tell_err g_tell_err)]
def us_tell_may_1 : List (Nat × Spec S) := [(47, sp_tell_err)]
noncomputable def Cb_tell_may_1 (g_tell_err : Int → Option (Bool)) : Ctx S := { P := Tryd.prog, E := E, ty := tyL tab, G := glL gtab, spec := spL (usb_tell_may_1 g_tell_err), inl := inL [] }
noncomputable def C_tell_may_1 : Ctx S := Cb_tell_may_1 tell_err
theorem evb_tell_may_1 (g_tell_err : Int → Option (Bool)) (L : (St S → D (Bool)) → Lp S (Bool)) (a0 : Int) : (runWF (Cb_tell_may_1 g_tell_err) (clDF (Cb_tell_may_1 g_tell_err) 0) L 49 [Ty.bool] (res1 Ty.bool) [encV E i64 a0]).opt = tell_may_1_b g_tell_err a0 := by kernel_rfl
theorem ev_tell_may_1 (L : (St S → D (Bool)) → Lp S (Bool)) (a0 : Int) : (runW C_tell_may_1 (clD C_tell_may_1 0) L 49 [Ty.bool] (res1 Ty.bool) [encV E i64 a0]).opt = tell_may_1 a0 := (congrArg D.opt (runWF_eq _ _ L _ _ _ _)).trans (evb_tell_may_1 tell_err L a0)
theorem ok_tell_may_1 : SpecOK C_tell_may_1 49 sp_tell_may_1 := by
  have hS := specs_ok (C := C_tell_may_1) (l := us_tell_may_1) rfl ⟨ok_tell_err.re rfl rfl rfl, trivial⟩
  refine spec_ok (C := C_tell_may_1) (cl := (clD C_tell_may_1 0)) (hd := (fun _ s => some s)) envOK (tyOK_of (l := tab) rfl tabT) hS (clD_ok envOK (tyOK_of (l := tab) rfl tabT) hS mixed (inl_ok (l := []) rfl (by kernel_rfl)) _) mixed HdOK.id (by kernel_rfl) [Ty.bool] (res1 Ty.bool) (de1 (S := S) Ty.bool) fun cs r h => ?_
  obtain ⟨a0, rfl, h⟩ := inv1 h
  exact ⟨0, (ev_tell_may_1 _ a0).trans h⟩
-- slices.IndexFunc[[]lodger/api.Errno,lodger/api.Errno]
def slices_IndexFunc_63_s0b (g_tell_may_1 : Int → Option (Bool)) (k0 : (List Int) → Int → Int → Option (Int)) (s0 : (List Int)) (s7 : Int) (s8 : Int) : Option (Int) := (bif (decide (s8 < s7)) then ((geti s0 s8).bind fun x1 => ((g_tell_may_1 x1).bind fun r2 => (bif r2 then some s8 else k0 s0 s7 (IntKind.wrap .i64 (s8 + 1))))) else some (-1))
def slices_IndexFunc_63_eb (g_tell_may_1 : Int → Option (Bool)) (k0 : (List Int) → Int → Int → Option (Int)) (a0 : (List Int)) : Option (Int) := k0 a0 (List.length a0 : Int) 0
def sp_slices_IndexFunc_63 : CSpec S := { pats := [.t (Ty.slice i64), .clo 49 []], boxes := [], R := Int, run := runC 1 (run1 (Ty.slice i64) slices_IndexFunc_63), enc := enc1 (S := S) i64 }
def spb_slices_IndexFunc_63 (F : (List Int) → Option (Int)) : CSpec S := { pats := [.t (Ty.slice i64), .clo 49 []], boxes := [], R := Int, run := runC 1 (run1 (Ty.slice i64) F), enc := enc1 (S := S) i64 }
def lcb_slices_IndexFunc_63 (g_tell_may_1 : Int → Option (Bool)) : List (Nat × CSpec S) := []
def usb_slices_IndexFunc_63 (g_tell_may_1 : Int → Option (Bool)) : List (Nat × Spec S) := [(49, spb_tell_may_1 g_tell_may_1)]
noncomputable def Cb_slices_IndexFunc_63 (g_tell_may_1 : Int → Option (Bool)) : Ctx S := { P := Tryd.prog, E := E, ty := tyL tab, G := glL gtab, spec := spL (usb_slices_IndexFunc_63 g_tell_may_1), inl := inL [] }
noncomputable def C_slices_IndexFunc_63 : Ctx S := Cb_slices_IndexFunc_63 tell_may_1
def hd_slices_IndexFunc_63 : List ((Nat × Nat) × List Hs) := [((2, 2), [.canon 0 [] [0, 1, 7, 8], .plain 0 (Ty.slice i64), .plain 7 i64, .plain 8 i64])]
def h0_slices_IndexFunc_63 (s0 : (List Int)) (s7 : Int) (s8 : Int) : St S := { tmps := [.cell (Ty.slice i64) s0, .clo 49 [] [], .undef, .undef, .undef, .undef, .undef, .cell i64 s7, .cell i64 s8, .undef, .undef, .undef, .undef, .undef, .undef, .undef, .undef, .undef, .undef], mem := [] }
theorem rdb0_slices_IndexFunc_63 (g_tell_may_1 : Int → Option (Bool)) (L : Lp S (Int)) (s0 : (List Int)) (s7 : Int) (s8 : Int) : (roundWF (Cb_slices_IndexFunc_63 g_tell_may_1) (clKF (Cb_slices_IndexFunc_63 g_tell_may_1) (lcb_slices_IndexFunc_63 g_tell_may_1) 0) (hdOf (Cb_slices_IndexFunc_63 g_tell_may_1) hd_slices_IndexFunc_63) 63 0 [i64] (res1 i64) L (h0_slices_IndexFunc_63 s0 s7 s8)).opt = slices_IndexFunc_63_s0b g_tell_may_1 (fun s0 s7 s8 => (L (todoOf (Cb_slices_IndexFunc_63 g_tell_may_1) 63 0) (h0_slices_IndexFunc_63 s0 s7 s8)).opt) s0 s7 s8 := by kernel_rfl
theorem rd0_slices_IndexFunc_63 (L : Lp S (Int)) (s0 : (List Int)) (s7 : Int) (s8 : Int) : (roundW C_slices_IndexFunc_63 (clK C_slices_IndexFunc_63 (lcb_slices_IndexFunc_63 tell_may_1) 0) (hdOf C_slices_IndexFunc_63 hd_slices_IndexFunc_63) 63 0 [i64] (res1 i64) L (h0_slices_IndexFunc_63 s0 s7 s8)).opt = slices_IndexFunc_63_s0 (fun s0 s7 s8 => (L (todoOf C_slices_IndexFunc_63 63 0) (h0_slices_IndexFunc_63 s0 s7 s8)).opt) s0 s7 s8 := (congrArg D.opt (roundKF_eq _ _ _ _ _ _ _ _ L _)).trans (rdb0_slices_IndexFunc_63 tell_may_1 L s0 s7 s8)
theorem enb_slices_IndexFunc_63 (g_tell_may_1 : Int → Option (Bool)) (L : Lp S (Int)) (a0 : (List Int)) : (runMF (Cb_slices_IndexFunc_63 g_tell_may_1) (clKF (Cb_slices_IndexFunc_63 g_tell_may_1) (lcb_slices_IndexFunc_63 g_tell_may_1) 0) (fun _ => canonL (hdOf (Cb_slices_IndexFunc_63 g_tell_may_1) hd_slices_IndexFunc_63) L) 63 [i64] (res1 i64) [encV E (Ty.slice i64) a0, .clo 49 [] []] []).opt = slices_IndexFunc_63_eb g_tell_may_1 (fun s0 s7 s8 => (L (todoOf (Cb_slices_IndexFunc_63 g_tell_may_1) 63 0) (h0_slices_IndexFunc_63 s0 s7 s8)).opt) a0 := by kernel_rfl
theorem en_slices_IndexFunc_63 (L : Lp S (Int)) (a0 : (List Int)) : (runM C_slices_IndexFunc_63 (clK C_slices_IndexFunc_63 (lcb_slices_IndexFunc_63 tell_may_1) 0) (fun _ => canonL (hdOf C_slices_IndexFunc_63 hd_slices_IndexFunc_63) L) 63 [i64] (res1 i64) [encV E (Ty.slice i64) a0, .clo 49 [] []] []).opt = slices_IndexFunc_63_e (fun s0 s7 s8 => (L (todoOf C_slices_IndexFunc_63 63 0) (h0_slices_IndexFunc_63 s0 s7 s8)).opt) a0 := (congrArg D.opt (runMF_eq _ _ _ _ _ _ _ _ _)).trans (enb_slices_IndexFunc_63 tell_may_1 L a0)
theorem fx_slices_IndexFunc_63 : ∀ n, (∀ (s0 : (List Int)) (s7 : Int) (s8 : Int), (Lfix C_slices_IndexFunc_63 (clK C_slices_IndexFunc_63 (lcb_slices_IndexFunc_63 tell_may_1) 0) (hdOf C_slices_IndexFunc_63 hd_slices_IndexFunc_63) (finW C_slices_IndexFunc_63 63 [i64] (res1 i64)) n (todoOf C_slices_IndexFunc_63 63 0) (h0_slices_IndexFunc_63 s0 s7 s8)).opt = slices_IndexFunc_63_l0 n s0 s7 s8)
  | 0 => fun _ _ _ => rfl
  | n + 1 => by
    have ih := fx_slices_IndexFunc_63 n
    have e0 : (fun s0 s7 s8 => (Lfix C_slices_IndexFunc_63 (clK C_slices_IndexFunc_63 (lcb_slices_IndexFunc_63 tell_may_1) 0) (hdOf C_slices_IndexFunc_63 hd_slices_IndexFunc_63) (finW C_slices_IndexFunc_63 63 [i64] (res1 i64)) n (todoOf C_slices_IndexFunc_63 63 0) (h0_slices_IndexFunc_63 s0 s7 s8)).opt) = slices_IndexFunc_63_l0 n := funext fun s0 => funext fun s7 => funext fun s8 => ih s0 s7 s8
    exact fun s0 s7 s8 => (congrArg D.opt (Lfix_round C_slices_IndexFunc_63 (clK C_slices_IndexFunc_63 (lcb_slices_IndexFunc_63 tell_may_1) 0) (hdOf C_slices_IndexFunc_63 hd_slices_IndexFunc_63) 63 0 [i64] (res1 i64) n _)).trans ((rd0_slices_IndexFunc_63 (Lfix C_slices_IndexFunc_63 (clK C_slices_IndexFunc_63 (lcb_slices_IndexFunc_63 tell_may_1) 0) (hdOf C_slices_IndexFunc_63 hd_slices_IndexFunc_63) (finW C_slices_IndexFunc_63 63 [i64] (res1 i64)) n) s0 s7 s8).trans (congrArg (fun x => slices_IndexFunc_63_s0  x  s0 s7 s8) e0))
theorem ev_slices_IndexFunc_63 (n : Nat) (a0 : (List Int)) : (runMh C_slices_IndexFunc_63 (clK C_slices_IndexFunc_63 (lcb_slices_IndexFunc_63 tell_may_1) 0) (hdOf C_slices_IndexFunc_63 hd_slices_IndexFunc_63) 63 [i64] (res1 i64) n [encV E (Ty.slice i64) a0, .clo 49 [] []] []).opt = slices_IndexFunc_63_n n a0 := by
  have ih := fx_slices_IndexFunc_63 n
  have e0 : (fun s0 s7 s8 => (Lfix C_slices_IndexFunc_63 (clK C_slices_IndexFunc_63 (lcb_slices_IndexFunc_63 tell_may_1) 0) (hdOf C_slices_IndexFunc_63 hd_slices_IndexFunc_63) (finW C_slices_IndexFunc_63 63 [i64] (res1 i64)) n (todoOf C_slices_IndexFunc_63 63 0) (h0_slices_IndexFunc_63 s0 s7 s8)).opt) = slices_IndexFunc_63_l0 n := funext fun s0 => funext fun s7 => funext fun s8 => ih s0 s7 s8
  exact (congrArg D.opt (runMh_eq C_slices_IndexFunc_63 (clK C_slices_IndexFunc_63 (lcb_slices_IndexFunc_63 tell_may_1) 0) (hdOf C_slices_IndexFunc_63 hd_slices_IndexFunc_63) 63 [i64] (res1 i64) n _ _)).trans ((en_slices_IndexFunc_63 (Lfix C_slices_IndexFunc_63 (clK C_slices_IndexFunc_63 (lcb_slices_IndexFunc_63 tell_may_1) 0) (hdOf C_slices_IndexFunc_63 hd_slices_IndexFunc_63) (finW C_slices_IndexFunc_63 63 [i64] (res1 i64)) n) a0).trans (congrArg (fun x => slices_IndexFunc_63_e  x  a0) e0))
theorem ok_slices_IndexFunc_63 : CSpecOK C_slices_IndexFunc_63 63 sp_slices_IndexFunc_63 := by
  have hS := specs_ok (C := C_slices_IndexFunc_63) (l := usb_slices_IndexFunc_63 tell_may_1) rfl ⟨ok_tell_may_1.re rfl rfl rfl, trivial⟩
  refine cspec_ok (C := C_slices_IndexFunc_63) (cl := (clK C_slices_IndexFunc_63 (lcb_slices_IndexFunc_63 tell_may_1) 0)) (hd := (hdOf C_slices_IndexFunc_63 hd_slices_IndexFunc_63)) envOK (tyOK_of (l := tab) rfl tabT) hS (clK_ok envOK (tyOK_of (l := tab) rfl tabT) hS mixed (l := lcb_slices_IndexFunc_63 tell_may_1) (inlK_ok (l := []) (lc := lcb_slices_IndexFunc_63 tell_may_1) rfl (by kernel_rfl)) (trivial) _) mixed (hdOf_ok envOK hd_slices_IndexFunc_63) (by kernel_rfl) [i64] (res1 i64) (de1 (S := S) i64) fun xs ys r h => ?_
  obtain ⟨cs, h1, h2, h⟩ := invC h
  obtain ⟨a0, rfl, h⟩ := inv1 h
  subst h1 h2
  exact ⟨big, (ev_slices_IndexFunc_63 big a0).trans ((def_slices_IndexFunc_63 a0).symm.trans h)⟩
-- lodger/tell.may
def tell_may_b (g_tell_fit : Int → Option (Bool)) (g_tell_err : Int → Option (Bool)) (g_slices_IndexFunc_63 : (List Int) → Option (Int)) (a0 : Event) : Option (Bool) := (bif (decide (a0.kind ≥ 1)) then (bif (decide (a0.kind ≤ 3)) then ((g_tell_fit a0.client).bind fun r1 => (bif r1 then ((g_tell_fit a0.ask).bind fun r2 => (bif r2 then ((g_tell_fit a0.item).bind fun r3 => (bif r3 then ((g_tell_fit a0.at_).bind fun r4 => (bif r4 then ((g_tell_err a0.answer.err).bind fun r5 => (bif r5 then (bif (decide ((List.length a0.answer.addrs : Int) ≤ 300)) then (bif (decide ((List.length a0.answer.errs : Int) ≤ 300)) then ((g_slices_IndexFunc_63 a0.answer.errs).bind fun r6 => some (not (decide (r6 ≥ 0)))) else some false) else some false) else some false)) else some false)) else some false)) else some false)) else some false)) else some false) else some false)
def sp_tell_may : Spec S := { args := [(Ty.st 6)], R := Bool, run := run1 (Ty.st 6) tell_may, enc := enc1 (S := S) Ty.bool }
def spb_tell_may (F : Event → Option (Bool)) : Spec S := { args := [(Ty.st 6)], R := Bool, run := run1 (Ty.st 6) F, enc := enc1 (S := S) Ty.bool }
def lcb_tell_may (g_tell_fit : Int → Option (Bool)) (g_tell_err : Int → Option (Bool)) (g_slices_IndexFunc_63 : (List Int) → Option (Int)) : List (Nat × CSpec S) := [(63, spb_slices_IndexFunc_63 g_slices_IndexFunc_63)]
def usb_tell_may (g_tell_fit : Int → Option (Bool)) (g_tell_err : Int → Option (Bool)) (g_slices_IndexFunc_63 : (List Int) → Option (Int)) : List (Nat × Spec S) := [(46, spb_tell_fit g_tell_fit), (47, spb_tell_err g_tell_err)]
noncomputable def Cb_tell_may (g_tell_fit : Int → Option (Bool)) (g_tell_err : Int → Option (Bool)) (g_slices_IndexFunc_63 : (List Int) → Option (Int)) : Ctx S := { P := Tryd.prog, E := E, ty := tyL tab, G := glL gtab, spec := spL (usb_tell_may g_tell_fit g_tell_err g_slices_IndexFunc_63), inl := inL [48, 63] }
noncomputable def C_tell_may : Ctx S := Cb_tell_may tell_fit tell_err slices_IndexFunc_63
theorem evb_tell_may (g_tell_fit : Int → Option (Bool)) (g_tell_err : Int → Option (Bool)) (g_slices_IndexFunc_63 : (List Int) → Option (Int)) (L : (St S → D (Bool)) → Lp S (Bool)) (a0 : Event) : (runWF (Cb_tell_may g_tell_fit g_tell_err g_slices_IndexFunc_63) (clKF (Cb_tell_may g_tell_fit g_tell_err g_slices_IndexFunc_63) (lcb_tell_may g_tell_fit g_tell_err g_slices_IndexFunc_63) 3) L 27 [Ty.bool] (res1 Ty.bool) [encV E (Ty.st 6) a0]).opt = tell_may_b g_tell_fit g_tell_err g_slices_IndexFunc_63 a0 := by kernel_rfl
theorem ev_tell_may (L : (St S → D (Bool)) → Lp S (Bool)) (a0 : Event) : (runW C_tell_may (clK C_tell_may (lcb_tell_may tell_fit tell_err slices_IndexFunc_63) 3) L 27 [Ty.bool] (res1 Ty.bool) [encV E (Ty.st 6) a0]).opt = tell_may a0 := (congrArg D.opt (runKF_eq _ _ _ L _ _ _ _)).trans (evb_tell_may tell_fit tell_err slices_IndexFunc_63 L a0)
theorem ok_tell_may : SpecOK C_tell_may 27 sp_tell_may := by
  have hS := specs_ok (C := C_tell_may) (l := usb_tell_may tell_fit tell_err slices_IndexFunc_63) rfl ⟨ok_tell_fit.re rfl rfl rfl, ok_tell_err.re rfl rfl rfl, trivial⟩
  refine spec_ok (C := C_tell_may) (cl := (clK C_tell_may (lcb_tell_may tell_fit tell_err slices_IndexFunc_63) 3)) (hd := (fun _ s => some s)) envOK (tyOK_of (l := tab) rfl tabT) hS (clK_ok envOK (tyOK_of (l := tab) rfl tabT) hS mixed (l := lcb_tell_may tell_fit tell_err slices_IndexFunc_63) (inlK_ok (l := [48, 63]) (lc := lcb_tell_may tell_fit tell_err slices_IndexFunc_63) rfl (by kernel_rfl)) (⟨ok_slices_IndexFunc_63.re rfl rfl rfl, trivial⟩) _) mixed HdOK.id (by kernel_rfl) [Ty.bool] (res1 Ty.bool) (de1 (S := S) Ty.bool) fun cs r h => ?_
  obtain ⟨a0, rfl, h⟩ := inv1 h
  exact ⟨0, (ev_tell_may _ a0).trans h⟩
-- lodger/tell.May$1
def tell_May_1_b (g_tell_may : Event → Option (Bool)) (a0 : Event) : Option (Bool) := ((g_tell_may a0).bind fun r1 => some (not r1))
def sp_tell_May_1 : Spec S := { args := [(Ty.st 6)], R := Bool, run := run1 (Ty.st 6) tell_May_1, enc := enc1 (S := S) Ty.bool }
def spb_tell_May_1 (F : Event → Option (Bool)) : Spec S := { args := [(Ty.st 6)], R := Bool, run := run1 (Ty.st 6) F, enc := enc1 (S := S) Ty.bool }
def usb_tell_May_1 (g_tell_may : Event → Option (Bool)) : List (Nat × Spec S) := [(27, spb_tell_may g_tell_may)]
def us_tell_May_1 : List (Nat × Spec S) := [(27, sp_tell_may)]
noncomputable def Cb_tell_May_1 (g_tell_may : Event → Option (Bool)) : Ctx S := { P := Tryd.prog, E := E, ty := tyL tab, G := glL gtab, spec := spL (usb_tell_May_1 g_tell_may), inl := inL [] }
noncomputable def C_tell_May_1 : Ctx S := Cb_tell_May_1 tell_may
theorem evb_tell_May_1 (g_tell_may : Event → Option (Bool)) (L : (St S → D (Bool)) → Lp S (Bool)) (a0 : Event) : (runWF (Cb_tell_May_1 g_tell_may) (clDF (Cb_tell_May_1 g_tell_may) 0) L 26 [Ty.bool] (res1 Ty.bool) [encV E (Ty.st 6) a0]).opt = tell_May_1_b g_tell_may a0 := by kernel_rfl
theorem ev_tell_May_1 (L : (St S → D (Bool)) → Lp S (Bool)) (a0 : Event) : (runW C_tell_May_1 (clD C_tell_May_1 0) L 26 [Ty.bool] (res1 Ty.bool) [encV E (Ty.st 6) a0]).opt = tell_May_1 a0 := (congrArg D.opt (runWF_eq _ _ L _ _ _ _)).trans (evb_tell_May_1 tell_may L a0)
theorem ok_tell_May_1 : SpecOK C_tell_May_1 26 sp_tell_May_1 := by
  have hS := specs_ok (C := C_tell_May_1) (l := us_tell_May_1) rfl ⟨ok_tell_may.re rfl rfl rfl, trivial⟩
  refine spec_ok (C := C_tell_May_1) (cl := (clD C_tell_May_1 0)) (hd := (fun _ s => some s)) envOK (tyOK_of (l := tab) rfl tabT) hS (clD_ok envOK (tyOK_of (l := tab) rfl tabT) hS mixed (inl_ok (l := []) rfl (by kernel_rfl)) _) mixed HdOK.id (by kernel_rfl) [Ty.bool] (res1 Ty.bool) (de1 (S := S) Ty.bool) fun cs r h => ?_
  obtain ⟨a0, rfl, h⟩ := inv1 h
  exact ⟨0, (ev_tell_May_1 _ a0).trans h⟩
-- slices.IndexFunc[[]lodger/api.Event,lodger/api.Event]
def slices_IndexFunc_45_s0b (g_tell_May_1 : Event → Option (Bool)) (k0 : (List Event) → Int → Int → Option (Int)) (s0 : (List Event)) (s7 : Int) (s8 : Int) : Option (Int) := (bif (decide (s8 < s7)) then ((geti s0 s8).bind fun x1 => ((g_tell_May_1 x1).bind fun r2 => (bif r2 then some s8 else k0 s0 s7 (IntKind.wrap .i64 (s8 + 1))))) else some (-1))
def slices_IndexFunc_45_eb (g_tell_May_1 : Event → Option (Bool)) (k0 : (List Event) → Int → Int → Option (Int)) (a0 : (List Event)) : Option (Int) := k0 a0 (List.length a0 : Int) 0
def sp_slices_IndexFunc_45 : CSpec S := { pats := [.t (Ty.slice (Ty.st 6)), .clo 26 []], boxes := [], R := Int, run := runC 1 (run1 (Ty.slice (Ty.st 6)) slices_IndexFunc_45), enc := enc1 (S := S) i64 }
def spb_slices_IndexFunc_45 (F : (List Event) → Option (Int)) : CSpec S := { pats := [.t (Ty.slice (Ty.st 6)), .clo 26 []], boxes := [], R := Int, run := runC 1 (run1 (Ty.slice (Ty.st 6)) F), enc := enc1 (S := S) i64 }
def lcb_slices_IndexFunc_45 (g_tell_May_1 : Event → Option (Bool)) : List (Nat × CSpec S) := []
def usb_slices_IndexFunc_45 (g_tell_May_1 : Event → Option (Bool)) : List (Nat × Spec S) := [(26, spb_tell_May_1 g_tell_May_1)]
noncomputable def Cb_slices_IndexFunc_45 (g_tell_May_1 : Event → Option (Bool)) : Ctx S := { P := Tryd.prog, E := E, ty := tyL tab, G := glL gtab, spec := spL (usb_slices_IndexFunc_45 g_tell_May_1), inl := inL [] }
noncomputable def C_slices_IndexFunc_45 : Ctx S := Cb_slices_IndexFunc_45 tell_May_1
def hd_slices_IndexFunc_45 : List ((Nat × Nat) × List Hs) := [((2, 2), [.canon 0 [] [0, 1, 7, 8], .plain 0 (Ty.slice (Ty.st 6)), .plain 7 i64, .plain 8 i64])]
def h0_slices_IndexFunc_45 (s0 : (List Event)) (s7 : Int) (s8 : Int) : St S := { tmps := [.cell (Ty.slice (Ty.st 6)) s0, .clo 26 [] [], .undef, .undef, .undef, .undef, .undef, .cell i64 s7, .cell i64 s8, .undef, .undef, .undef, .undef, .undef, .undef, .undef, .undef, .undef, .undef], mem := [] }
theorem rdb0_slices_IndexFunc_45 (g_tell_May_1 : Event → Option (Bool)) (L : Lp S (Int)) (s0 : (List Event)) (s7 : Int) (s8 : Int) : (roundWF (Cb_slices_IndexFunc_45 g_tell_May_1) (clKF (Cb_slices_IndexFunc_45 g_tell_May_1) (lcb_slices_IndexFunc_45 g_tell_May_1) 0) (hdOf (Cb_slices_IndexFunc_45 g_tell_May_1) hd_slices_IndexFunc_45) 45 0 [i64] (res1 i64) L (h0_slices_IndexFunc_45 s0 s7 s8)).opt = slices_IndexFunc_45_s0b g_tell_May_1 (fun s0 s7 s8 => (L (todoOf (Cb_slices_IndexFunc_45 g_tell_May_1) 45 0) (h0_slices_IndexFunc_45 s0 s7 s8)).opt) s0 s7 s8 := by kernel_rfl
theorem rd0_slices_IndexFunc_45 (L : Lp S (Int)) (s0 : (List Event)) (s7 : Int) (s8 : Int) : (roundW C_slices_IndexFunc_45 (clK C_slices_IndexFunc_45 (lcb_slices_IndexFunc_45 tell_May_1) 0) (hdOf C_slices_IndexFunc_45 hd_slices_IndexFunc_45) 45 0 [i64] (res1 i64) L (h0_slices_IndexFunc_45 s0 s7 s8)).opt = slices_IndexFunc_45_s0 (fun s0 s7 s8 => (L (todoOf C_slices_IndexFunc_45 45 0) (h0_slices_IndexFunc_45 s0 s7 s8)).opt) s0 s7 s8 := (congrArg D.opt (roundKF_eq _ _ _ _ _ _ _ _ L _)).trans (rdb0_slices_IndexFunc_45 tell_May_1 L s0 s7 s8)
theorem enb_slices_IndexFunc_45 (g_tell_May_1 : Event → Option (Bool)) (L : Lp S (Int)) (a0 : (List Event)) : (runMF (Cb_slices_IndexFunc_45 g_tell_May_1) (clKF (Cb_slices_IndexFunc_45 g_tell_May_1) (lcb_slices_IndexFunc_45 g_tell_May_1) 0) (fun _ => canonL (hdOf (Cb_slices_IndexFunc_45 g_tell_May_1) hd_slices_IndexFunc_45) L) 45 [i64] (res1 i64) [encV E (Ty.slice (Ty.st 6)) a0, .clo 26 [] []] []).opt = slices_IndexFunc_45_eb g_tell_May_1 (fun s0 s7 s8 => (L (todoOf (Cb_slices_IndexFunc_45 g_tell_May_1) 45 0) (h0_slices_IndexFunc_45 s0 s7 s8)).opt) a0 := by kernel_rfl
theorem en_slices_IndexFunc_45 (L : Lp S (Int)) (a0 : (List Event)) : (runM C_slices_IndexFunc_45 (clK C_slices_IndexFunc_45 (lcb_slices_IndexFunc_45 tell_May_1) 0) (fun _ => canonL (hdOf C_slices_IndexFunc_45 hd_slices_IndexFunc_45) L) 45 [i64] (res1 i64) [encV E (Ty.slice (Ty.st 6)) a0, .clo 26 [] []] []).opt = slices_IndexFunc_45_e (fun s0 s7 s8 => (L (todoOf C_slices_IndexFunc_45 45 0) (h0_slices_IndexFunc_45 s0 s7 s8)).opt) a0 := (congrArg D.opt (runMF_eq _ _ _ _ _ _ _ _ _)).trans (enb_slices_IndexFunc_45 tell_May_1 L a0)
theorem fx_slices_IndexFunc_45 : ∀ n, (∀ (s0 : (List Event)) (s7 : Int) (s8 : Int), (Lfix C_slices_IndexFunc_45 (clK C_slices_IndexFunc_45 (lcb_slices_IndexFunc_45 tell_May_1) 0) (hdOf C_slices_IndexFunc_45 hd_slices_IndexFunc_45) (finW C_slices_IndexFunc_45 45 [i64] (res1 i64)) n (todoOf C_slices_IndexFunc_45 45 0) (h0_slices_IndexFunc_45 s0 s7 s8)).opt = slices_IndexFunc_45_l0 n s0 s7 s8)
  | 0 => fun _ _ _ => rfl
  | n + 1 => by
    have ih := fx_slices_IndexFunc_45 n
    have e0 : (fun s0 s7 s8 => (Lfix C_slices_IndexFunc_45 (clK C_slices_IndexFunc_45 (lcb_slices_IndexFunc_45 tell_May_1) 0) (hdOf C_slices_IndexFunc_45 hd_slices_IndexFunc_45) (finW C_slices_IndexFunc_45 45 [i64] (res1 i64)) n (todoOf C_slices_IndexFunc_45 45 0) (h0_slices_IndexFunc_45 s0 s7 s8)).opt) = slices_IndexFunc_45_l0 n := funext fun s0 => funext fun s7 => funext fun s8 => ih s0 s7 s8
    exact fun s0 s7 s8 => (congrArg D.opt (Lfix_round C_slices_IndexFunc_45 (clK C_slices_IndexFunc_45 (lcb_slices_IndexFunc_45 tell_May_1) 0) (hdOf C_slices_IndexFunc_45 hd_slices_IndexFunc_45) 45 0 [i64] (res1 i64) n _)).trans ((rd0_slices_IndexFunc_45 (Lfix C_slices_IndexFunc_45 (clK C_slices_IndexFunc_45 (lcb_slices_IndexFunc_45 tell_May_1) 0) (hdOf C_slices_IndexFunc_45 hd_slices_IndexFunc_45) (finW C_slices_IndexFunc_45 45 [i64] (res1 i64)) n) s0 s7 s8).trans (congrArg (fun x => slices_IndexFunc_45_s0  x  s0 s7 s8) e0))
theorem ev_slices_IndexFunc_45 (n : Nat) (a0 : (List Event)) : (runMh C_slices_IndexFunc_45 (clK C_slices_IndexFunc_45 (lcb_slices_IndexFunc_45 tell_May_1) 0) (hdOf C_slices_IndexFunc_45 hd_slices_IndexFunc_45) 45 [i64] (res1 i64) n [encV E (Ty.slice (Ty.st 6)) a0, .clo 26 [] []] []).opt = slices_IndexFunc_45_n n a0 := by
  have ih := fx_slices_IndexFunc_45 n
  have e0 : (fun s0 s7 s8 => (Lfix C_slices_IndexFunc_45 (clK C_slices_IndexFunc_45 (lcb_slices_IndexFunc_45 tell_May_1) 0) (hdOf C_slices_IndexFunc_45 hd_slices_IndexFunc_45) (finW C_slices_IndexFunc_45 45 [i64] (res1 i64)) n (todoOf C_slices_IndexFunc_45 45 0) (h0_slices_IndexFunc_45 s0 s7 s8)).opt) = slices_IndexFunc_45_l0 n := funext fun s0 => funext fun s7 => funext fun s8 => ih s0 s7 s8
  exact (congrArg D.opt (runMh_eq C_slices_IndexFunc_45 (clK C_slices_IndexFunc_45 (lcb_slices_IndexFunc_45 tell_May_1) 0) (hdOf C_slices_IndexFunc_45 hd_slices_IndexFunc_45) 45 [i64] (res1 i64) n _ _)).trans ((en_slices_IndexFunc_45 (Lfix C_slices_IndexFunc_45 (clK C_slices_IndexFunc_45 (lcb_slices_IndexFunc_45 tell_May_1) 0) (hdOf C_slices_IndexFunc_45 hd_slices_IndexFunc_45) (finW C_slices_IndexFunc_45 45 [i64] (res1 i64)) n) a0).trans (congrArg (fun x => slices_IndexFunc_45_e  x  a0) e0))
theorem ok_slices_IndexFunc_45 : CSpecOK C_slices_IndexFunc_45 45 sp_slices_IndexFunc_45 := by
  have hS := specs_ok (C := C_slices_IndexFunc_45) (l := usb_slices_IndexFunc_45 tell_May_1) rfl ⟨ok_tell_May_1.re rfl rfl rfl, trivial⟩
  refine cspec_ok (C := C_slices_IndexFunc_45) (cl := (clK C_slices_IndexFunc_45 (lcb_slices_IndexFunc_45 tell_May_1) 0)) (hd := (hdOf C_slices_IndexFunc_45 hd_slices_IndexFunc_45)) envOK (tyOK_of (l := tab) rfl tabT) hS (clK_ok envOK (tyOK_of (l := tab) rfl tabT) hS mixed (l := lcb_slices_IndexFunc_45 tell_May_1) (inlK_ok (l := []) (lc := lcb_slices_IndexFunc_45 tell_May_1) rfl (by kernel_rfl)) (trivial) _) mixed (hdOf_ok envOK hd_slices_IndexFunc_45) (by kernel_rfl) [i64] (res1 i64) (de1 (S := S) i64) fun xs ys r h => ?_
  obtain ⟨cs, h1, h2, h⟩ := invC h
  obtain ⟨a0, rfl, h⟩ := inv1 h
  subst h1 h2
  exact ⟨big, (ev_slices_IndexFunc_45 big a0).trans ((def_slices_IndexFunc_45 a0).symm.trans h)⟩
-- lodger/tell.May
def tell_May_b (g_slices_IndexFunc_45 : (List Event) → Option (Int)) (a0 : (List Event)) : Option (Bool) := ((g_slices_IndexFunc_45 a0).bind fun r1 => some (not (decide (r1 ≥ 0))))
def sp_tell_May : Spec S := { args := [(Ty.slice (Ty.st 6))], R := Bool, run := run1 (Ty.slice (Ty.st 6)) tell_May, enc := enc1 (S := S) Ty.bool }
def spb_tell_May (F : (List Event) → Option (Bool)) : Spec S := { args := [(Ty.slice (Ty.st 6))], R := Bool, run := run1 (Ty.slice (Ty.st 6)) F, enc := enc1 (S := S) Ty.bool }
def lcb_tell_May (g_slices_IndexFunc_45 : (List Event) → Option (Int)) : List (Nat × CSpec S) := [(45, spb_slices_IndexFunc_45 g_slices_IndexFunc_45)]
def usb_tell_May (g_slices_IndexFunc_45 : (List Event) → Option (Int)) : List (Nat × Spec S) := []
noncomputable def Cb_tell_May (g_slices_IndexFunc_45 : (List Event) → Option (Int)) : Ctx S := { P := Tryd.prog, E := E, ty := tyL tab, G := glL gtab, spec := spL (usb_tell_May g_slices_IndexFunc_45), inl := inL [25, 45] }
noncomputable def C_tell_May : Ctx S := Cb_tell_May slices_IndexFunc_45
theorem evb_tell_May (g_slices_IndexFunc_45 : (List Event) → Option (Int)) (L : (St S → D (Bool)) → Lp S (Bool)) (a0 : (List Event)) : (runWF (Cb_tell_May g_slices_IndexFunc_45) (clKF (Cb_tell_May g_slices_IndexFunc_45) (lcb_tell_May g_slices_IndexFunc_45) 3) L 13 [Ty.bool] (res1 Ty.bool) [encV E (Ty.slice (Ty.st 6)) a0]).opt = tell_May_b g_slices_IndexFunc_45 a0 := by kernel_rfl
theorem ev_tell_May (L : (St S → D (Bool)) → Lp S (Bool)) (a0 : (List Event)) : (runW C_tell_May (clK C_tell_May (lcb_tell_May slices_IndexFunc_45) 3) L 13 [Ty.bool] (res1 Ty.bool) [encV E (Ty.slice (Ty.st 6)) a0]).opt = tell_May a0 := (congrArg D.opt (runKF_eq _ _ _ L _ _ _ _)).trans (evb_tell_May slices_IndexFunc_45 L a0)
theorem ok_tell_May : SpecOK C_tell_May 13 sp_tell_May := by
  have hS := specs_ok (C := C_tell_May) (l := usb_tell_May slices_IndexFunc_45) rfl trivial
  refine spec_ok (C := C_tell_May) (cl := (clK C_tell_May (lcb_tell_May slices_IndexFunc_45) 3)) (hd := (fun _ s => some s)) envOK (tyOK_of (l := tab) rfl tabT) hS (clK_ok envOK (tyOK_of (l := tab) rfl tabT) hS mixed (l := lcb_tell_May slices_IndexFunc_45) (inlK_ok (l := [25, 45]) (lc := lcb_tell_May slices_IndexFunc_45) rfl (by kernel_rfl)) (⟨ok_slices_IndexFunc_45.re rfl rfl rfl, trivial⟩) _) mixed HdOK.id (by kernel_rfl) [Ty.bool] (res1 Ty.bool) (de1 (S := S) Ty.bool) fun cs r h => ?_
  obtain ⟨a0, rfl, h⟩ := inv1 h
  exact ⟨0, (ev_tell_May _ a0).trans h⟩
-- strconv.Itoa
end Go.Lv.Ld
namespace Go.Proofs
open Go.Shelf
def Tryd.lvstrconv_Itoa_ren : Go.Shelf.Ren := ⟨fun | 171 => 31 | 243 => 53 | 246 => 64 | 283 => 76 | 284 => 77 | 285 => 78 | 286 => 79 | 129 => 91 | 317 => 90 | 318 => 92 | 319 => 93 | 320 => 94 | 337 => 99 | 338 => 100 | n => n, fun | 3 => 3 | 9 => 9 | 2 => 2 | 4 => 4 | 171 => 109 | 0 => 0 | 53 => 110 | 37 => 49 | 5 => 5 | 173 => 113 | 212 => 130 | 51 => 37 | 20 => 20 | 213 => 131 | 46 => 90 | 232 => 140 | 233 => 141 | n => n, fun | 17 => 5 | 18 => 6 | 19 => 7 | n => n⟩
theorem Tryd.lvstrconv_Itoa : Go.Proofs.LaysM.n171 Tryd.prog Tryd.lvstrconv_Itoa_ren := {
  mixed := by kernel_rfl
  f129 := Tryd.func91.trans (congrArg some (by kernel_rfl))
  f171 := Tryd.func31.trans (congrArg some (by kernel_rfl))
  f243 := Tryd.func53.trans (congrArg some (by kernel_rfl))
  f246 := Tryd.func64.trans (congrArg some (by kernel_rfl))
  f283 := Tryd.func76.trans (congrArg some (by kernel_rfl))
  f284 := Tryd.func77.trans (congrArg some (by kernel_rfl))
  f285 := Tryd.func78.trans (congrArg some (by kernel_rfl))
  f286 := Tryd.func79.trans (congrArg some (by kernel_rfl))
  f317 := Tryd.func90.trans (congrArg some (by kernel_rfl))
  f318 := Tryd.func92.trans (congrArg some (by kernel_rfl))
  f319 := Tryd.func93.trans (congrArg some (by kernel_rfl))
  f320 := Tryd.func94.trans (congrArg some (by kernel_rfl))
  f337 := Tryd.func99.trans (congrArg some (by kernel_rfl))
  f338 := Tryd.func100.trans (congrArg some (by kernel_rfl))
  t0 := Tryd.underlying0
  a0 := Tryd.isAgg0
  z0 := Tryd.sizeOf0
  v0 := Tryd.zeroValue0
  t2 := Tryd.underlying2
  a2 := Tryd.isAgg2
  z2 := Tryd.sizeOf2
  v2 := Tryd.zeroValue2
  t3 := Tryd.underlying3
  a3 := Tryd.isAgg3
  z3 := Tryd.sizeOf3
  v3 := Tryd.zeroValue3
  t4 := Tryd.underlying4
  a4 := Tryd.isAgg4
  z4 := Tryd.sizeOf4
  v4 := Tryd.zeroValue4
  t5 := Tryd.underlying5
  a5 := Tryd.isAgg5
  z5 := Tryd.sizeOf5
  v5 := Tryd.zeroValue5
  t9 := Tryd.underlying9
  a9 := Tryd.isAgg9
  z9 := Tryd.sizeOf9
  v9 := Tryd.zeroValue9
  t20 := Tryd.underlying20
  a20 := Tryd.isAgg20
  z20 := Tryd.sizeOf20
  v20 := Tryd.zeroValue20
  t37 := Tryd.underlying49
  a37 := Tryd.isAgg49
  z37 := Tryd.sizeOf49
  v37 := Tryd.zeroValue49
  t46 := Tryd.underlying90
  a46 := Tryd.isAgg90
  z46 := Tryd.sizeOf90
  v46 := Tryd.zeroValue90
  t51 := Tryd.underlying37
  a51 := Tryd.isAgg37
  z51 := Tryd.sizeOf37
  v51 := Tryd.zeroValue37
  t53 := Tryd.underlying110
  a53 := Tryd.isAgg110
  z53 := Tryd.sizeOf110
  v53 := Tryd.zeroValue110
  t171 := Tryd.underlying109
  a171 := Tryd.isAgg109
  z171 := Tryd.sizeOf109
  v171 := Tryd.zeroValue109
  t173 := Tryd.underlying113
  a173 := Tryd.isAgg113
  z173 := Tryd.sizeOf113
  v173 := Tryd.zeroValue113
  t212 := Tryd.underlying130
  a212 := Tryd.isAgg130
  z212 := Tryd.sizeOf130
  v212 := Tryd.zeroValue130
  t213 := Tryd.underlying131
  a213 := Tryd.isAgg131
  z213 := Tryd.sizeOf131
  t232 := Tryd.underlying140
  a232 := Tryd.isAgg140
  z232 := Tryd.sizeOf140
  v232 := Tryd.zeroValue140
  t233 := Tryd.underlying141
  a233 := Tryd.isAgg141
  z233 := Tryd.sizeOf141
  v233 := Tryd.zeroValue141
  g17 := by kernel_rfl
  g18 := by kernel_rfl
  g19 := by kernel_rfl
  i0 := by kernel_rfl
  i2 := by kernel_rfl
  i3 := by kernel_rfl
  i4 := by kernel_rfl
  i5 := by kernel_rfl
  i9 := by kernel_rfl
  i20 := by kernel_rfl
  i37 := by kernel_rfl
  i46 := by kernel_rfl
  i51 := by kernel_rfl
  i53 := by kernel_rfl
  i171 := by kernel_rfl
  i173 := by kernel_rfl
  i212 := by kernel_rfl
  i232 := by kernel_rfl
  i233 := by kernel_rfl
  m17 := by kernel_rfl
  m18 := by kernel_rfl
  m19 := by kernel_rfl }
end Go.Proofs
namespace Go.Lv.Ld
open Go Go.Lv Go.Proofs
set_option linter.all false
set_option maxRecDepth 100000
def sp_strconv_Itoa : Spec S := { args := [i64], R := (List UInt8), run := run1 i64 strconv_Itoa, enc := enc1 (S := S) Ty.str }
def spb_strconv_Itoa (F : Int → Option ((List UInt8))) : Spec S := { args := [i64], R := (List UInt8), run := run1 i64 F, enc := enc1 (S := S) Ty.str }
noncomputable def C_strconv_Itoa : Ctx S := { P := Tryd.prog, E := E, ty := tyL tab, G := glL gtab, spec := fun _ => none, inl := fun _ => false }
theorem ok_strconv_Itoa : SpecOK C_strconv_Itoa 31 sp_strconv_Itoa := ok_Itoa (C := C_strconv_Itoa) (ρ := Tryd.lvstrconv_Itoa_ren) Tryd.lvstrconv_Itoa (lvEnters (by kernel_rfl)) (g := 5) (by kernel_rfl) (by kernel_rfl)
-- strings.Join
end Go.Lv.Ld
namespace Go.Proofs
open Go.Shelf
def Tryd.lvstrings_Join_ren : Go.Shelf.Ren := ⟨fun | 156 => 33 | 165 => 54 | 166 => 17 | 169 => 19 | 240 => 30 | 241 => 65 | 276 => 52 | 277 => 80 | n => n, fun | 31 => 68 | 9 => 9 | 3 => 3 | 4 => 4 | 0 => 0 | 20 => 20 | 72 => 51 | 76 => 54 | 70 => 48 | 37 => 49 | 75 => 53 | 127 => 71 | 164 => 87 | 5 => 5 | 80 => 57 | n => n, fun | n => n⟩
theorem Tryd.lvstrings_Join : Go.Proofs.LaysM.n156 Tryd.prog Tryd.lvstrings_Join_ren := {
  mixed := by kernel_rfl
  f156 := Tryd.func33.trans (congrArg some (by kernel_rfl))
  f165 := Tryd.func54.trans (congrArg some (by kernel_rfl))
  f166 := Tryd.func17.trans (congrArg some (by kernel_rfl))
  f169 := Tryd.func19.trans (congrArg some (by kernel_rfl))
  f240 := Tryd.func30.trans (congrArg some (by kernel_rfl))
  f241 := Tryd.func65.trans (congrArg some (by kernel_rfl))
  f276 := Tryd.func52.trans (congrArg some (by kernel_rfl))
  f277 := Tryd.func80.trans (congrArg some (by kernel_rfl))
  t0 := Tryd.underlying0
  a0 := Tryd.isAgg0
  z0 := Tryd.sizeOf0
  v0 := Tryd.zeroValue0
  t3 := Tryd.underlying3
  a3 := Tryd.isAgg3
  z3 := Tryd.sizeOf3
  v3 := Tryd.zeroValue3
  t4 := Tryd.underlying4
  a4 := Tryd.isAgg4
  z4 := Tryd.sizeOf4
  v4 := Tryd.zeroValue4
  t9 := Tryd.underlying9
  a9 := Tryd.isAgg9
  z9 := Tryd.sizeOf9
  v9 := Tryd.zeroValue9
  t20 := Tryd.underlying20
  a20 := Tryd.isAgg20
  z20 := Tryd.sizeOf20
  v20 := Tryd.zeroValue20
  t31 := Tryd.underlying68
  a31 := Tryd.isAgg68
  z31 := Tryd.sizeOf68
  v31 := Tryd.zeroValue68
  t37 := Tryd.underlying49
  a37 := Tryd.isAgg49
  z37 := Tryd.sizeOf49
  v37 := Tryd.zeroValue49
  t70 := Tryd.underlying48
  a70 := Tryd.isAgg48
  z70 := Tryd.sizeOf48
  v70 := Tryd.zeroValue48
  t72 := Tryd.underlying51
  a72 := Tryd.isAgg51
  z72 := Tryd.sizeOf51
  v72 := Tryd.zeroValue51
  t75 := Tryd.underlying53
  a75 := Tryd.isAgg53
  z75 := Tryd.sizeOf53
  v75 := Tryd.zeroValue53
  t76 := Tryd.underlying54
  a76 := Tryd.isAgg54
  z76 := Tryd.sizeOf54
  v76 := Tryd.zeroValue54
  t127 := Tryd.underlying71
  a127 := Tryd.isAgg71
  z127 := Tryd.sizeOf71
  v127 := Tryd.zeroValue71
  t164 := Tryd.underlying87
  a164 := Tryd.isAgg87
  z164 := Tryd.sizeOf87
  v164 := Tryd.zeroValue87
  t5 := Tryd.underlying5
  a5 := Tryd.isAgg5
  z5 := Tryd.sizeOf5
  v5 := Tryd.zeroValue5
  t80 := Tryd.underlying57
  a80 := Tryd.isAgg57
  z80 := Tryd.sizeOf57
  v80 := Tryd.zeroValue57
  i0 := by kernel_rfl
  i3 := by kernel_rfl
  i4 := by kernel_rfl
  i5 := by kernel_rfl
  i9 := by kernel_rfl
  i20 := by kernel_rfl
  i31 := by kernel_rfl
  i37 := by kernel_rfl
  i70 := by kernel_rfl
  i72 := by kernel_rfl
  i75 := by kernel_rfl
  i76 := by kernel_rfl
  i80 := by kernel_rfl
  i127 := by kernel_rfl
  i164 := by kernel_rfl }
end Go.Proofs
namespace Go.Lv.Ld
open Go Go.Lv Go.Proofs
set_option linter.all false
set_option maxRecDepth 100000
def sp_strings_Join : Spec S := { args := [(Ty.slice Ty.str), Ty.str], R := (List UInt8), run := run2 (Ty.slice Ty.str) Ty.str strings_Join, enc := enc1 (S := S) Ty.str }
def spb_strings_Join (F : (List (List UInt8)) → (List UInt8) → Option ((List UInt8))) : Spec S := { args := [(Ty.slice Ty.str), Ty.str], R := (List UInt8), run := run2 (Ty.slice Ty.str) Ty.str F, enc := enc1 (S := S) Ty.str }
theorem ex_Builder : Builder.Extra Tryd.prog Tryd.lvstrings_Join_ren where
  sizeBuilder := by kernel_rfl
  liesBuilder := by kernel_rfl
  t5 := Tryd.lvstrings_Join.t5
  a5 := Tryd.lvstrings_Join.a5
  z5 := Tryd.lvstrings_Join.z5
  v5 := Tryd.lvstrings_Join.v5
  infoByte := Tryd.lvstrings_Join.i5
  cellsByte := by kernel_rfl
  sizeByte := by kernel_rfl
  neB5 := by decide
noncomputable def C_strings_Join : Ctx S := { P := Tryd.prog, E := E, ty := tyL tab, G := glL gtab, spec := fun _ => none, inl := fun _ => false }
theorem ok_strings_Join : SpecOK C_strings_Join 33 sp_strings_Join := ok_Join (C := C_strings_Join) (ρ := Tryd.lvstrings_Join_ren) { Tryd.lvstrings_Join with } ex_Builder (lvEnters (by kernel_rfl))
-- lodger/addr.Text
def addr_Text_s0b (g_strconv_Itoa : Int → Option ((List UInt8))) (g_strings_Join : (List (List UInt8)) → (List UInt8) → Option ((List UInt8))) (k0 : Int → Int → (List UInt8) → (List UInt8) → (List UInt8) → (List UInt8) → Option ((List UInt8))) (s0 : Int) (s5 : Int) (m0_0 : (List UInt8)) (m0_1 : (List UInt8)) (m0_2 : (List UInt8)) (m0_3 : (List UInt8)) : Option ((List UInt8)) := (bif (decide (s5 < 4)) then (bif (decide ((IntKind.wrap .u64 (IntKind.wrap .i64 (8 * s5))) < 0)) then none else ((g_strconv_Itoa (IntKind.wrap .i64 (bit_and .u32 (shr .u32 s0 (IntKind.wrap .u64 (IntKind.wrap .i64 (8 * s5)))) 255))).bind fun r1 => (bif ((IntKind.wrap .i64 (3 - s5)) == (0 : Int)) then k0 s0 (IntKind.wrap .i64 (s5 + 1)) r1 m0_1 m0_2 m0_3 else (bif ((IntKind.wrap .i64 (3 - s5)) == (1 : Int)) then k0 s0 (IntKind.wrap .i64 (s5 + 1)) m0_0 r1 m0_2 m0_3 else (bif ((IntKind.wrap .i64 (3 - s5)) == (2 : Int)) then k0 s0 (IntKind.wrap .i64 (s5 + 1)) m0_0 m0_1 r1 m0_3 else (bif ((IntKind.wrap .i64 (3 - s5)) == (3 : Int)) then k0 s0 (IntKind.wrap .i64 (s5 + 1)) m0_0 m0_1 m0_2 r1 else none)))))) else ((g_strings_Join ([m0_0, m0_1, m0_2, m0_3] : List (List UInt8)) ([46] : List UInt8)).bind fun r2 => some r2))
def addr_Text_eb (g_strconv_Itoa : Int → Option ((List UInt8))) (g_strings_Join : (List (List UInt8)) → (List UInt8) → Option ((List UInt8))) (k0 : Int → Int → (List UInt8) → (List UInt8) → (List UInt8) → (List UInt8) → Option ((List UInt8))) (a0 : Int) : Option ((List UInt8)) := k0 a0 0 ([] : List UInt8) ([] : List UInt8) ([] : List UInt8) ([] : List UInt8)
def sp_addr_Text : Spec S := { args := [u32], R := (List UInt8), run := run1 u32 addr_Text, enc := enc1 (S := S) Ty.str }
def spb_addr_Text (F : Int → Option ((List UInt8))) : Spec S := { args := [u32], R := (List UInt8), run := run1 u32 F, enc := enc1 (S := S) Ty.str }
def usb_addr_Text (g_strconv_Itoa : Int → Option ((List UInt8))) (g_strings_Join : (List (List UInt8)) → (List UInt8) → Option ((List UInt8))) : List (Nat × Spec S) := [(31, spb_strconv_Itoa g_strconv_Itoa), (33, spb_strings_Join g_strings_Join)]
def us_addr_Text : List (Nat × Spec S) := [(31, sp_strconv_Itoa), (33, sp_strings_Join)]
noncomputable def Cb_addr_Text (g_strconv_Itoa : Int → Option ((List UInt8))) (g_strings_Join : (List (List UInt8)) → (List UInt8) → Option ((List UInt8))) : Ctx S := { P := Tryd.prog, E := E, ty := tyL tab, G := glL gtab, spec := spL (usb_addr_Text g_strconv_Itoa g_strings_Join), inl := inL [] }
noncomputable def C_addr_Text : Ctx S := Cb_addr_Text strconv_Itoa strings_Join
def hd_addr_Text : List ((Nat × Nat) × List Hs) := [((2, 3), [.canon 1 [0] [0, 3, 5], .plain 0 u32, .plain 5 i64, .plainB 0 0 Ty.str, .plainB 0 1 Ty.str, .plainB 0 2 Ty.str, .plainB 0 3 Ty.str])]
def h0_addr_Text (s0 : Int) (s5 : Int) (m0_0 : (List UInt8)) (m0_1 : (List UInt8)) (m0_2 : (List UInt8)) (m0_3 : (List UInt8)) : St S := { tmps := [.cell u32 s0, .undef, .undef, .ptr 0 0, .undef, .cell i64 s5, .undef, .undef, .undef, .undef, .undef, .undef, .undef, .undef, .undef, .undef, .undef, .undef, .undef, .undef, .undef, .undef], mem := [.box [.cell Ty.str m0_0, .cell Ty.str m0_1, .cell Ty.str m0_2, .cell Ty.str m0_3] false] }
theorem rdb0_addr_Text (g_strconv_Itoa : Int → Option ((List UInt8))) (g_strings_Join : (List (List UInt8)) → (List UInt8) → Option ((List UInt8))) (L : Lp S ((List UInt8))) (s0 : Int) (s5 : Int) (m0_0 : (List UInt8)) (m0_1 : (List UInt8)) (m0_2 : (List UInt8)) (m0_3 : (List UInt8)) : (roundWF (Cb_addr_Text g_strconv_Itoa g_strings_Join) (clDF (Cb_addr_Text g_strconv_Itoa g_strings_Join) 0) (hdOf (Cb_addr_Text g_strconv_Itoa g_strings_Join) hd_addr_Text) 32 0 [Ty.str] (res1 Ty.str) L (h0_addr_Text s0 s5 m0_0 m0_1 m0_2 m0_3)).opt = addr_Text_s0b g_strconv_Itoa g_strings_Join (fun s0 s5 m0_0 m0_1 m0_2 m0_3 => (L (todoOf (Cb_addr_Text g_strconv_Itoa g_strings_Join) 32 0) (h0_addr_Text s0 s5 m0_0 m0_1 m0_2 m0_3)).opt) s0 s5 m0_0 m0_1 m0_2 m0_3 := by kernel_rfl
theorem rd0_addr_Text (L : Lp S ((List UInt8))) (s0 : Int) (s5 : Int) (m0_0 : (List UInt8)) (m0_1 : (List UInt8)) (m0_2 : (List UInt8)) (m0_3 : (List UInt8)) : (roundW C_addr_Text (clD C_addr_Text 0) (hdOf C_addr_Text hd_addr_Text) 32 0 [Ty.str] (res1 Ty.str) L (h0_addr_Text s0 s5 m0_0 m0_1 m0_2 m0_3)).opt = addr_Text_s0 (fun s0 s5 m0_0 m0_1 m0_2 m0_3 => (L (todoOf C_addr_Text 32 0) (h0_addr_Text s0 s5 m0_0 m0_1 m0_2 m0_3)).opt) s0 s5 m0_0 m0_1 m0_2 m0_3 := (congrArg D.opt (roundWF_eq _ _ _ _ _ _ _ L _)).trans (rdb0_addr_Text strconv_Itoa strings_Join L s0 s5 m0_0 m0_1 m0_2 m0_3)
theorem enb_addr_Text (g_strconv_Itoa : Int → Option ((List UInt8))) (g_strings_Join : (List (List UInt8)) → (List UInt8) → Option ((List UInt8))) (L : Lp S ((List UInt8))) (a0 : Int) : (runWF (Cb_addr_Text g_strconv_Itoa g_strings_Join) (clDF (Cb_addr_Text g_strconv_Itoa g_strings_Join) 0) (fun _ => canonL (hdOf (Cb_addr_Text g_strconv_Itoa g_strings_Join) hd_addr_Text) L) 32 [Ty.str] (res1 Ty.str) [encV E u32 a0]).opt = addr_Text_eb g_strconv_Itoa g_strings_Join (fun s0 s5 m0_0 m0_1 m0_2 m0_3 => (L (todoOf (Cb_addr_Text g_strconv_Itoa g_strings_Join) 32 0) (h0_addr_Text s0 s5 m0_0 m0_1 m0_2 m0_3)).opt) a0 := by kernel_rfl
theorem en_addr_Text (L : Lp S ((List UInt8))) (a0 : Int) : (runW C_addr_Text (clD C_addr_Text 0) (fun _ => canonL (hdOf C_addr_Text hd_addr_Text) L) 32 [Ty.str] (res1 Ty.str) [encV E u32 a0]).opt = addr_Text_e (fun s0 s5 m0_0 m0_1 m0_2 m0_3 => (L (todoOf C_addr_Text 32 0) (h0_addr_Text s0 s5 m0_0 m0_1 m0_2 m0_3)).opt) a0 := (congrArg D.opt (runWF_eq _ _ _ _ _ _ _)).trans (enb_addr_Text strconv_Itoa strings_Join L a0)
theorem fx_addr_Text : ∀ n, (∀ (s0 : Int) (s5 : Int) (m0_0 : (List UInt8)) (m0_1 : (List UInt8)) (m0_2 : (List UInt8)) (m0_3 : (List UInt8)), (Lfix C_addr_Text (clD C_addr_Text 0) (hdOf C_addr_Text hd_addr_Text) (finW C_addr_Text 32 [Ty.str] (res1 Ty.str)) n (todoOf C_addr_Text 32 0) (h0_addr_Text s0 s5 m0_0 m0_1 m0_2 m0_3)).opt = addr_Text_l0 n s0 s5 m0_0 m0_1 m0_2 m0_3)
  | 0 => fun _ _ _ _ _ _ => rfl
  | n + 1 => by
    have ih := fx_addr_Text n
    have e0 : (fun s0 s5 m0_0 m0_1 m0_2 m0_3 => (Lfix C_addr_Text (clD C_addr_Text 0) (hdOf C_addr_Text hd_addr_Text) (finW C_addr_Text 32 [Ty.str] (res1 Ty.str)) n (todoOf C_addr_Text 32 0) (h0_addr_Text s0 s5 m0_0 m0_1 m0_2 m0_3)).opt) = addr_Text_l0 n := funext fun s0 => funext fun s5 => funext fun m0_0 => funext fun m0_1 => funext fun m0_2 => funext fun m0_3 => ih s0 s5 m0_0 m0_1 m0_2 m0_3
    exact fun s0 s5 m0_0 m0_1 m0_2 m0_3 => (congrArg D.opt (Lfix_round C_addr_Text (clD C_addr_Text 0) (hdOf C_addr_Text hd_addr_Text) 32 0 [Ty.str] (res1 Ty.str) n _)).trans ((rd0_addr_Text (Lfix C_addr_Text (clD C_addr_Text 0) (hdOf C_addr_Text hd_addr_Text) (finW C_addr_Text 32 [Ty.str] (res1 Ty.str)) n) s0 s5 m0_0 m0_1 m0_2 m0_3).trans (congrArg (fun x => addr_Text_s0  x  s0 s5 m0_0 m0_1 m0_2 m0_3) e0))
theorem ev_addr_Text (n : Nat) (a0 : Int) : (runF C_addr_Text (clD C_addr_Text 0) (hdOf C_addr_Text hd_addr_Text) 32 [Ty.str] (res1 Ty.str) n [encV E u32 a0]).opt = addr_Text_n n a0 := by
  have ih := fx_addr_Text n
  have e0 : (fun s0 s5 m0_0 m0_1 m0_2 m0_3 => (Lfix C_addr_Text (clD C_addr_Text 0) (hdOf C_addr_Text hd_addr_Text) (finW C_addr_Text 32 [Ty.str] (res1 Ty.str)) n (todoOf C_addr_Text 32 0) (h0_addr_Text s0 s5 m0_0 m0_1 m0_2 m0_3)).opt) = addr_Text_l0 n := funext fun s0 => funext fun s5 => funext fun m0_0 => funext fun m0_1 => funext fun m0_2 => funext fun m0_3 => ih s0 s5 m0_0 m0_1 m0_2 m0_3
  exact (congrArg D.opt (runF_eq C_addr_Text (clD C_addr_Text 0) (hdOf C_addr_Text hd_addr_Text) 32 [Ty.str] (res1 Ty.str) n _)).trans ((en_addr_Text (Lfix C_addr_Text (clD C_addr_Text 0) (hdOf C_addr_Text hd_addr_Text) (finW C_addr_Text 32 [Ty.str] (res1 Ty.str)) n) a0).trans (congrArg (fun x => addr_Text_e  x  a0) e0))
theorem ok_addr_Text : SpecOK C_addr_Text 32 sp_addr_Text := by
  have hS := specs_ok (C := C_addr_Text) (l := us_addr_Text) rfl ⟨ok_strconv_Itoa.re rfl rfl rfl, ok_strings_Join.re rfl rfl rfl, trivial⟩
  refine spec_ok (C := C_addr_Text) (cl := (clD C_addr_Text 0)) (hd := (hdOf C_addr_Text hd_addr_Text)) envOK (tyOK_of (l := tab) rfl tabT) hS (clD_ok envOK (tyOK_of (l := tab) rfl tabT) hS mixed (inl_ok (l := []) rfl (by kernel_rfl)) _) mixed (hdOf_ok envOK hd_addr_Text) (by kernel_rfl) [Ty.str] (res1 Ty.str) (de1 (S := S) Ty.str) fun cs r h => ?_
  obtain ⟨a0, rfl, h⟩ := inv1 h
  exact ⟨big, (ev_addr_Text big a0).trans ((def_addr_Text a0).symm.trans h)⟩
-- lodger/tell.line
def tell_line_s0b (g_strconv_Itoa : Int → Option ((List UInt8))) (g_addr_Text : Int → Option ((List UInt8))) (g_strings_Join : (List (List UInt8)) → (List UInt8) → Option ((List UInt8))) (k0 : (List Int) → Int → Int → Answer → (List (List UInt8)) → Option ((List UInt8))) (k1 : (List Int) → Int → Int → Answer → (List (List UInt8)) → Option ((List UInt8))) (k2 : (List Int) → Int → Int → (List (List UInt8)) → Option ((List UInt8))) (s26 : (List Int)) (s27 : Int) (s28 : Int) (m1 : Answer) (m2 : (List (List UInt8))) : Option ((List UInt8)) := (bif (decide (s28 < s27)) then ((geti s26 s28).bind fun x1 => ((g_strconv_Itoa x1).bind fun r2 => (bif (decide (m2.length + ([r2] : List (List UInt8)).length ≤ maxList)) then k0 s26 s27 (IntKind.wrap .i64 (s28 + 1)) m1 (m2 ++ ([r2] : List (List UInt8))) else none))) else (bif m1.used then ((g_addr_Text m1.addr).bind fun r3 => (bif (decide (m2.length + ([r3, ([121, 101, 115] : List UInt8), ([97, 100, 100, 114, 115] : List UInt8)] : List (List UInt8)).length ≤ maxList)) then k1 m1.addrs (List.length m1.addrs : Int) 0 m1 (m2 ++ ([r3, ([121, 101, 115] : List UInt8), ([97, 100, 100, 114, 115] : List UInt8)] : List (List UInt8))) else none)) else ((g_addr_Text m1.addr).bind fun r4 => (bif (decide (m2.length + ([r4, ([110, 111] : List UInt8), ([97, 100, 100, 114, 115] : List UInt8)] : List (List UInt8)).length ≤ maxList)) then k1 m1.addrs (List.length m1.addrs : Int) 0 m1 (m2 ++ ([r4, ([110, 111] : List UInt8), ([97, 100, 100, 114, 115] : List UInt8)] : List (List UInt8))) else none))))
def tell_line_s1b (g_strconv_Itoa : Int → Option ((List UInt8))) (g_addr_Text : Int → Option ((List UInt8))) (g_strings_Join : (List (List UInt8)) → (List UInt8) → Option ((List UInt8))) (k0 : (List Int) → Int → Int → Answer → (List (List UInt8)) → Option ((List UInt8))) (k1 : (List Int) → Int → Int → Answer → (List (List UInt8)) → Option ((List UInt8))) (k2 : (List Int) → Int → Int → (List (List UInt8)) → Option ((List UInt8))) (s48 : (List Int)) (s49 : Int) (s50 : Int) (m1 : Answer) (m2 : (List (List UInt8))) : Option ((List UInt8)) := (bif (decide (s50 < s49)) then ((geti s48 s50).bind fun x5 => ((g_addr_Text x5).bind fun r6 => (bif (decide (m2.length + ([r6] : List (List UInt8)).length ≤ maxList)) then k1 s48 s49 (IntKind.wrap .i64 (s50 + 1)) m1 (m2 ++ ([r6] : List (List UInt8))) else none))) else (bif (decide (m2.length + ([([101, 114, 114, 115] : List UInt8)] : List (List UInt8)).length ≤ maxList)) then k2 m1.errs (List.length m1.errs : Int) 0 (m2 ++ ([([101, 114, 114, 115] : List UInt8)] : List (List UInt8))) else none))
def tell_line_s2b (g_strconv_Itoa : Int → Option ((List UInt8))) (g_addr_Text : Int → Option ((List UInt8))) (g_strings_Join : (List (List UInt8)) → (List UInt8) → Option ((List UInt8))) (k0 : (List Int) → Int → Int → Answer → (List (List UInt8)) → Option ((List UInt8))) (k1 : (List Int) → Int → Int → Answer → (List (List UInt8)) → Option ((List UInt8))) (k2 : (List Int) → Int → Int → (List (List UInt8)) → Option ((List UInt8))) (s64 : (List Int)) (s65 : Int) (s66 : Int) (m2 : (List (List UInt8))) : Option ((List UInt8)) := (bif (decide (s66 < s65)) then ((geti s64 s66).bind fun x7 => ((g_strconv_Itoa x7).bind fun r8 => (bif (decide (m2.length + ([r8] : List (List UInt8)).length ≤ maxList)) then k2 s64 s65 (IntKind.wrap .i64 (s66 + 1)) (m2 ++ ([r8] : List (List UInt8))) else none))) else ((g_strings_Join m2 ([32] : List UInt8)).bind fun r9 => (bif (decide (r9.length + ([10] : List UInt8).length ≤ 1152921504606846976)) then some (r9 ++ ([10] : List UInt8)) else none)))
def tell_line_eb (g_strconv_Itoa : Int → Option ((List UInt8))) (g_addr_Text : Int → Option ((List UInt8))) (g_strings_Join : (List (List UInt8)) → (List UInt8) → Option ((List UInt8))) (k0 : (List Int) → Int → Int → Answer → (List (List UInt8)) → Option ((List UInt8))) (k1 : (List Int) → Int → Int → Answer → (List (List UInt8)) → Option ((List UInt8))) (k2 : (List Int) → Int → Int → (List (List UInt8)) → Option ((List UInt8))) (a0 : Event) : Option ((List UInt8)) := k0 ([a0.kind, a0.client, a0.ask, a0.item, a0.at_, a0.answer.err] : List Int) (List.length ([a0.kind, a0.client, a0.ask, a0.item, a0.at_, a0.answer.err] : List Int) : Int) 0 a0.answer ([] : (List (List UInt8)))
def sp_tell_line : Spec S := { args := [(Ty.st 6)], R := (List UInt8), run := run1 (Ty.st 6) tell_line, enc := enc1 (S := S) Ty.str }
def spb_tell_line (F : Event → Option ((List UInt8))) : Spec S := { args := [(Ty.st 6)], R := (List UInt8), run := run1 (Ty.st 6) F, enc := enc1 (S := S) Ty.str }
def usb_tell_line (g_strconv_Itoa : Int → Option ((List UInt8))) (g_addr_Text : Int → Option ((List UInt8))) (g_strings_Join : (List (List UInt8)) → (List UInt8) → Option ((List UInt8))) : List (Nat × Spec S) := [(31, spb_strconv_Itoa g_strconv_Itoa), (32, spb_addr_Text g_addr_Text), (33, spb_strings_Join g_strings_Join)]
def us_tell_line : List (Nat × Spec S) := [(31, sp_strconv_Itoa), (32, sp_addr_Text), (33, sp_strings_Join)]
noncomputable def Cb_tell_line (g_strconv_Itoa : Int → Option ((List UInt8))) (g_addr_Text : Int → Option ((List UInt8))) (g_strings_Join : (List (List UInt8)) → (List UInt8) → Option ((List UInt8))) : Ctx S := { P := Tryd.prog, E := E, ty := tyL tab, G := glL gtab, spec := spL (usb_tell_line g_strconv_Itoa g_addr_Text g_strings_Join), inl := inL [] }
noncomputable def C_tell_line : Ctx S := Cb_tell_line strconv_Itoa addr_Text strings_Join
def hd_tell_line : List ((Nat × Nat) × List Hs) := [((2, 4), [.promo 4 9 Ty.str, .canon 3 [1, 2] [3, 4, 26, 27, 28], .plain 26 (Ty.slice i64), .plain 27 i64, .plain 28 i64, .plainB 1 0 (Ty.st 3)]), ((2, 13), [.canon 3 [1, 2] [3, 4, 48, 49, 50], .plain 48 (Ty.slice u32), .plain 49 i64, .plain 50 i64, .plainB 1 0 (Ty.st 3)]), ((2, 19), [.canon 3 [2] [4, 64, 65, 66], .plain 64 (Ty.slice i64), .plain 65 i64, .plain 66 i64])]
def h0_tell_line (s26 : (List Int)) (s27 : Int) (s28 : Int) (m1 : Answer) (m2 : (List (List UInt8))) : St S := { tmps := [.undef, .undef, .undef, .ptr 1 0, .own 2 0, .undef, .undef, .undef, .undef, .undef, .undef, .undef, .undef, .undef, .undef, .undef, .undef, .undef, .undef, .undef, .undef, .undef, .undef, .undef, .undef, .undef, .cell (Ty.slice i64) s26, .cell i64 s27, .cell i64 s28, .undef, .undef, .undef, .undef, .undef, .undef, .undef, .undef, .undef, .undef, .undef, .undef, .undef, .undef, .undef, .undef, .undef, .undef, .undef, .undef, .undef, .undef, .undef, .undef, .undef, .undef, .undef, .undef, .undef, .undef, .undef, .undef, .undef, .undef, .undef, .undef, .undef, .undef, .undef, .undef, .undef, .undef, .undef, .undef, .undef, .undef, .undef, .undef, .undef, .undef], mem := [.box [.undef, .undef, .undef, .undef, .undef, .undef, .undef, .undef, .undef, .undef] false, .box [.cell i64 m1.err, .cell u32 m1.addr, .cell Ty.bool m1.used, .cell (Ty.slice u32) m1.addrs, .cell (Ty.slice i64) m1.errs] false, .arr 9 Ty.str m2 0 false] }
def h1_tell_line (s48 : (List Int)) (s49 : Int) (s50 : Int) (m1 : Answer) (m2 : (List (List UInt8))) : St S := { tmps := [.undef, .undef, .undef, .ptr 1 0, .own 2 0, .undef, .undef, .undef, .undef, .undef, .undef, .undef, .undef, .undef, .undef, .undef, .undef, .undef, .undef, .undef, .undef, .undef, .undef, .undef, .undef, .undef, .undef, .undef, .undef, .undef, .undef, .undef, .undef, .undef, .undef, .undef, .undef, .undef, .undef, .undef, .undef, .undef, .undef, .undef, .undef, .undef, .undef, .undef, .cell (Ty.slice u32) s48, .cell i64 s49, .cell i64 s50, .undef, .undef, .undef, .undef, .undef, .undef, .undef, .undef, .undef, .undef, .undef, .undef, .undef, .undef, .undef, .undef, .undef, .undef, .undef, .undef, .undef, .undef, .undef, .undef, .undef, .undef, .undef, .undef], mem := [.box [.undef, .undef, .undef, .undef, .undef, .undef, .undef, .undef, .undef, .undef] false, .box [.cell i64 m1.err, .cell u32 m1.addr, .cell Ty.bool m1.used, .cell (Ty.slice u32) m1.addrs, .cell (Ty.slice i64) m1.errs] false, .arr 9 Ty.str m2 0 false] }
def h2_tell_line (s64 : (List Int)) (s65 : Int) (s66 : Int) (m2 : (List (List UInt8))) : St S := { tmps := [.undef, .undef, .undef, .undef, .own 2 0, .undef, .undef, .undef, .undef, .undef, .undef, .undef, .undef, .undef, .undef, .undef, .undef, .undef, .undef, .undef, .undef, .undef, .undef, .undef, .undef, .undef, .undef, .undef, .undef, .undef, .undef, .undef, .undef, .undef, .undef, .undef, .undef, .undef, .undef, .undef, .undef, .undef, .undef, .undef, .undef, .undef, .undef, .undef, .undef, .undef, .undef, .undef, .undef, .undef, .undef, .undef, .undef, .undef, .undef, .undef, .undef, .undef, .undef, .undef, .cell (Ty.slice i64) s64, .cell i64 s65, .cell i64 s66, .undef, .undef, .undef, .undef, .undef, .undef, .undef, .undef, .undef, .undef, .undef, .undef], mem := [.box [.undef, .undef, .undef, .undef, .undef, .undef, .undef, .undef, .undef, .undef] false, .box [.undef, .undef, .undef, .undef, .undef] false, .arr 9 Ty.str m2 0 false] }
theorem rdb0_tell_line (g_strconv_Itoa : Int → Option ((List UInt8))) (g_addr_Text : Int → Option ((List UInt8))) (g_strings_Join : (List (List UInt8)) → (List UInt8) → Option ((List UInt8))) (L : Lp S ((List UInt8))) (s26 : (List Int)) (s27 : Int) (s28 : Int) (m1 : Answer) (m2 : (List (List UInt8))) : (roundWF (Cb_tell_line g_strconv_Itoa g_addr_Text g_strings_Join) (clDF (Cb_tell_line g_strconv_Itoa g_addr_Text g_strings_Join) 0) (hdOf (Cb_tell_line g_strconv_Itoa g_addr_Text g_strings_Join) hd_tell_line) 18 0 [Ty.str] (res1 Ty.str) L (h0_tell_line s26 s27 s28 m1 m2)).opt = tell_line_s0b g_strconv_Itoa g_addr_Text g_strings_Join (fun s26 s27 s28 m1 m2 => (L (todoOf (Cb_tell_line g_strconv_Itoa g_addr_Text g_strings_Join) 18 0) (h0_tell_line s26 s27 s28 m1 m2)).opt) (fun s48 s49 s50 m1 m2 => (L (todoOf (Cb_tell_line g_strconv_Itoa g_addr_Text g_strings_Join) 18 1) (h1_tell_line s48 s49 s50 m1 m2)).opt) (fun s64 s65 s66 m2 => (L (todoOf (Cb_tell_line g_strconv_Itoa g_addr_Text g_strings_Join) 18 2) (h2_tell_line s64 s65 s66 m2)).opt) s26 s27 s28 m1 m2 := by kernel_rfl
theorem rd0_tell_line (L : Lp S ((List UInt8))) (s26 : (List Int)) (s27 : Int) (s28 : Int) (m1 : Answer) (m2 : (List (List UInt8))) : (roundW C_tell_line (clD C_tell_line 0) (hdOf C_tell_line hd_tell_line) 18 0 [Ty.str] (res1 Ty.str) L (h0_tell_line s26 s27 s28 m1 m2)).opt = tell_line_s0 (fun s26 s27 s28 m1 m2 => (L (todoOf C_tell_line 18 0) (h0_tell_line s26 s27 s28 m1 m2)).opt) (fun s48 s49 s50 m1 m2 => (L (todoOf C_tell_line 18 1) (h1_tell_line s48 s49 s50 m1 m2)).opt) (fun s64 s65 s66 m2 => (L (todoOf C_tell_line 18 2) (h2_tell_line s64 s65 s66 m2)).opt) s26 s27 s28 m1 m2 := (congrArg D.opt (roundWF_eq _ _ _ _ _ _ _ L _)).trans (rdb0_tell_line strconv_Itoa addr_Text strings_Join L s26 s27 s28 m1 m2)
theorem rdb1_tell_line (g_strconv_Itoa : Int → Option ((List UInt8))) (g_addr_Text : Int → Option ((List UInt8))) (g_strings_Join : (List (List UInt8)) → (List UInt8) → Option ((List UInt8))) (L : Lp S ((List UInt8))) (s48 : (List Int)) (s49 : Int) (s50 : Int) (m1 : Answer) (m2 : (List (List UInt8))) : (roundWF (Cb_tell_line g_strconv_Itoa g_addr_Text g_strings_Join) (clDF (Cb_tell_line g_strconv_Itoa g_addr_Text g_strings_Join) 0) (hdOf (Cb_tell_line g_strconv_Itoa g_addr_Text g_strings_Join) hd_tell_line) 18 1 [Ty.str] (res1 Ty.str) L (h1_tell_line s48 s49 s50 m1 m2)).opt = tell_line_s1b g_strconv_Itoa g_addr_Text g_strings_Join (fun s26 s27 s28 m1 m2 => (L (todoOf (Cb_tell_line g_strconv_Itoa g_addr_Text g_strings_Join) 18 0) (h0_tell_line s26 s27 s28 m1 m2)).opt) (fun s48 s49 s50 m1 m2 => (L (todoOf (Cb_tell_line g_strconv_Itoa g_addr_Text g_strings_Join) 18 1) (h1_tell_line s48 s49 s50 m1 m2)).opt) (fun s64 s65 s66 m2 => (L (todoOf (Cb_tell_line g_strconv_Itoa g_addr_Text g_strings_Join) 18 2) (h2_tell_line s64 s65 s66 m2)).opt) s48 s49 s50 m1 m2 := by kernel_rfl
theorem rd1_tell_line (L : Lp S ((List UInt8))) (s48 : (List Int)) (s49 : Int) (s50 : Int) (m1 : Answer) (m2 : (List (List UInt8))) : (roundW C_tell_line (clD C_tell_line 0) (hdOf C_tell_line hd_tell_line) 18 1 [Ty.str] (res1 Ty.str) L (h1_tell_line s48 s49 s50 m1 m2)).opt = tell_line_s1 (fun s26 s27 s28 m1 m2 => (L (todoOf C_tell_line 18 0) (h0_tell_line s26 s27 s28 m1 m2)).opt) (fun s48 s49 s50 m1 m2 => (L (todoOf C_tell_line 18 1) (h1_tell_line s48 s49 s50 m1 m2)).opt) (fun s64 s65 s66 m2 => (L (todoOf C_tell_line 18 2) (h2_tell_line s64 s65 s66 m2)).opt) s48 s49 s50 m1 m2 := (congrArg D.opt (roundWF_eq _ _ _ _ _ _ _ L _)).trans (rdb1_tell_line strconv_Itoa addr_Text strings_Join L s48 s49 s50 m1 m2)
theorem rdb2_tell_line (g_strconv_Itoa : Int → Option ((List UInt8))) (g_addr_Text : Int → Option ((List UInt8))) (g_strings_Join : (List (List UInt8)) → (List UInt8) → Option ((List UInt8))) (L : Lp S ((List UInt8))) (s64 : (List Int)) (s65 : Int) (s66 : Int) (m2 : (List (List UInt8))) : (roundWF (Cb_tell_line g_strconv_Itoa g_addr_Text g_strings_Join) (clDF (Cb_tell_line g_strconv_Itoa g_addr_Text g_strings_Join) 0) (hdOf (Cb_tell_line g_strconv_Itoa g_addr_Text g_strings_Join) hd_tell_line) 18 2 [Ty.str] (res1 Ty.str) L (h2_tell_line s64 s65 s66 m2)).opt = tell_line_s2b g_strconv_Itoa g_addr_Text g_strings_Join (fun s26 s27 s28 m1 m2 => (L (todoOf (Cb_tell_line g_strconv_Itoa g_addr_Text g_strings_Join) 18 0) (h0_tell_line s26 s27 s28 m1 m2)).opt) (fun s48 s49 s50 m1 m2 => (L (todoOf (Cb_tell_line g_strconv_Itoa g_addr_Text g_strings_Join) 18 1) (h1_tell_line s48 s49 s50 m1 m2)).opt) (fun s64 s65 s66 m2 => (L (todoOf (Cb_tell_line g_strconv_Itoa g_addr_Text g_strings_Join) 18 2) (h2_tell_line s64 s65 s66 m2)).opt) s64 s65 s66 m2 := by kernel_rfl
theorem rd2_tell_line (L : Lp S ((List UInt8))) (s64 : (List Int)) (s65 : Int) (s66 : Int) (m2 : (List (List UInt8))) : (roundW C_tell_line (clD C_tell_line 0) (hdOf C_tell_line hd_tell_line) 18 2 [Ty.str] (res1 Ty.str) L (h2_tell_line s64 s65 s66 m2)).opt = tell_line_s2 (fun s26 s27 s28 m1 m2 => (L (todoOf C_tell_line 18 0) (h0_tell_line s26 s27 s28 m1 m2)).opt) (fun s48 s49 s50 m1 m2 => (L (todoOf C_tell_line 18 1) (h1_tell_line s48 s49 s50 m1 m2)).opt) (fun s64 s65 s66 m2 => (L (todoOf C_tell_line 18 2) (h2_tell_line s64 s65 s66 m2)).opt) s64 s65 s66 m2 := (congrArg D.opt (roundWF_eq _ _ _ _ _ _ _ L _)).trans (rdb2_tell_line strconv_Itoa addr_Text strings_Join L s64 s65 s66 m2)
theorem enb_tell_line (g_strconv_Itoa : Int → Option ((List UInt8))) (g_addr_Text : Int → Option ((List UInt8))) (g_strings_Join : (List (List UInt8)) → (List UInt8) → Option ((List UInt8))) (L : Lp S ((List UInt8))) (a0 : Event) : (runWF (Cb_tell_line g_strconv_Itoa g_addr_Text g_strings_Join) (clDF (Cb_tell_line g_strconv_Itoa g_addr_Text g_strings_Join) 0) (fun _ => canonL (hdOf (Cb_tell_line g_strconv_Itoa g_addr_Text g_strings_Join) hd_tell_line) L) 18 [Ty.str] (res1 Ty.str) [encV E (Ty.st 6) a0]).opt = tell_line_eb g_strconv_Itoa g_addr_Text g_strings_Join (fun s26 s27 s28 m1 m2 => (L (todoOf (Cb_tell_line g_strconv_Itoa g_addr_Text g_strings_Join) 18 0) (h0_tell_line s26 s27 s28 m1 m2)).opt) (fun s48 s49 s50 m1 m2 => (L (todoOf (Cb_tell_line g_strconv_Itoa g_addr_Text g_strings_Join) 18 1) (h1_tell_line s48 s49 s50 m1 m2)).opt) (fun s64 s65 s66 m2 => (L (todoOf (Cb_tell_line g_strconv_Itoa g_addr_Text g_strings_Join) 18 2) (h2_tell_line s64 s65 s66 m2)).opt) a0 := by kernel_rfl
theorem en_tell_line (L : Lp S ((List UInt8))) (a0 : Event) : (runW C_tell_line (clD C_tell_line 0) (fun _ => canonL (hdOf C_tell_line hd_tell_line) L) 18 [Ty.str] (res1 Ty.str) [encV E (Ty.st 6) a0]).opt = tell_line_e (fun s26 s27 s28 m1 m2 => (L (todoOf C_tell_line 18 0) (h0_tell_line s26 s27 s28 m1 m2)).opt) (fun s48 s49 s50 m1 m2 => (L (todoOf C_tell_line 18 1) (h1_tell_line s48 s49 s50 m1 m2)).opt) (fun s64 s65 s66 m2 => (L (todoOf C_tell_line 18 2) (h2_tell_line s64 s65 s66 m2)).opt) a0 := (congrArg D.opt (runWF_eq _ _ _ _ _ _ _)).trans (enb_tell_line strconv_Itoa addr_Text strings_Join L a0)
theorem fx_tell_line : ∀ n, (∀ (s26 : (List Int)) (s27 : Int) (s28 : Int) (m1 : Answer) (m2 : (List (List UInt8))), (Lfix C_tell_line (clD C_tell_line 0) (hdOf C_tell_line hd_tell_line) (finW C_tell_line 18 [Ty.str] (res1 Ty.str)) n (todoOf C_tell_line 18 0) (h0_tell_line s26 s27 s28 m1 m2)).opt = tell_line_l0 n s26 s27 s28 m1 m2) ∧ (∀ (s48 : (List Int)) (s49 : Int) (s50 : Int) (m1 : Answer) (m2 : (List (List UInt8))), (Lfix C_tell_line (clD C_tell_line 0) (hdOf C_tell_line hd_tell_line) (finW C_tell_line 18 [Ty.str] (res1 Ty.str)) n (todoOf C_tell_line 18 1) (h1_tell_line s48 s49 s50 m1 m2)).opt = tell_line_l1 n s48 s49 s50 m1 m2) ∧ (∀ (s64 : (List Int)) (s65 : Int) (s66 : Int) (m2 : (List (List UInt8))), (Lfix C_tell_line (clD C_tell_line 0) (hdOf C_tell_line hd_tell_line) (finW C_tell_line 18 [Ty.str] (res1 Ty.str)) n (todoOf C_tell_line 18 2) (h2_tell_line s64 s65 s66 m2)).opt = tell_line_l2 n s64 s65 s66 m2)
  | 0 => ⟨fun _ _ _ _ _ => rfl, fun _ _ _ _ _ => rfl, fun _ _ _ _ => rfl⟩
  | n + 1 => by
    have ih := fx_tell_line n
    have e0 : (fun s26 s27 s28 m1 m2 => (Lfix C_tell_line (clD C_tell_line 0) (hdOf C_tell_line hd_tell_line) (finW C_tell_line 18 [Ty.str] (res1 Ty.str)) n (todoOf C_tell_line 18 0) (h0_tell_line s26 s27 s28 m1 m2)).opt) = tell_line_l0 n := funext fun s26 => funext fun s27 => funext fun s28 => funext fun m1 => funext fun m2 => ih.1 s26 s27 s28 m1 m2
    have e1 : (fun s48 s49 s50 m1 m2 => (Lfix C_tell_line (clD C_tell_line 0) (hdOf C_tell_line hd_tell_line) (finW C_tell_line 18 [Ty.str] (res1 Ty.str)) n (todoOf C_tell_line 18 1) (h1_tell_line s48 s49 s50 m1 m2)).opt) = tell_line_l1 n := funext fun s48 => funext fun s49 => funext fun s50 => funext fun m1 => funext fun m2 => ih.2.1 s48 s49 s50 m1 m2
    have e2 : (fun s64 s65 s66 m2 => (Lfix C_tell_line (clD C_tell_line 0) (hdOf C_tell_line hd_tell_line) (finW C_tell_line 18 [Ty.str] (res1 Ty.str)) n (todoOf C_tell_line 18 2) (h2_tell_line s64 s65 s66 m2)).opt) = tell_line_l2 n := funext fun s64 => funext fun s65 => funext fun s66 => funext fun m2 => ih.2.2 s64 s65 s66 m2
    exact ⟨fun s26 s27 s28 m1 m2 => (congrArg D.opt (Lfix_round C_tell_line (clD C_tell_line 0) (hdOf C_tell_line hd_tell_line) 18 0 [Ty.str] (res1 Ty.str) n _)).trans ((rd0_tell_line (Lfix C_tell_line (clD C_tell_line 0) (hdOf C_tell_line hd_tell_line) (finW C_tell_line 18 [Ty.str] (res1 Ty.str)) n) s26 s27 s28 m1 m2).trans ((congrArg (fun x => tell_line_s0  x (fun s48 s49 s50 m1 m2 => (Lfix C_tell_line (clD C_tell_line 0) (hdOf C_tell_line hd_tell_line) (finW C_tell_line 18 [Ty.str] (res1 Ty.str)) n (todoOf C_tell_line 18 1) (h1_tell_line s48 s49 s50 m1 m2)).opt) (fun s64 s65 s66 m2 => (Lfix C_tell_line (clD C_tell_line 0) (hdOf C_tell_line hd_tell_line) (finW C_tell_line 18 [Ty.str] (res1 Ty.str)) n (todoOf C_tell_line 18 2) (h2_tell_line s64 s65 s66 m2)).opt) s26 s27 s28 m1 m2) e0).trans ((congrArg (fun x => tell_line_s0 (tell_line_l0 n) x (fun s64 s65 s66 m2 => (Lfix C_tell_line (clD C_tell_line 0) (hdOf C_tell_line hd_tell_line) (finW C_tell_line 18 [Ty.str] (res1 Ty.str)) n (todoOf C_tell_line 18 2) (h2_tell_line s64 s65 s66 m2)).opt) s26 s27 s28 m1 m2) e1).trans (congrArg (fun x => tell_line_s0 (tell_line_l0 n) (tell_line_l1 n) x  s26 s27 s28 m1 m2) e2)))), fun s48 s49 s50 m1 m2 => (congrArg D.opt (Lfix_round C_tell_line (clD C_tell_line 0) (hdOf C_tell_line hd_tell_line) 18 1 [Ty.str] (res1 Ty.str) n _)).trans ((rd1_tell_line (Lfix C_tell_line (clD C_tell_line 0) (hdOf C_tell_line hd_tell_line) (finW C_tell_line 18 [Ty.str] (res1 Ty.str)) n) s48 s49 s50 m1 m2).trans ((congrArg (fun x => tell_line_s1  x (fun s48 s49 s50 m1 m2 => (Lfix C_tell_line (clD C_tell_line 0) (hdOf C_tell_line hd_tell_line) (finW C_tell_line 18 [Ty.str] (res1 Ty.str)) n (todoOf C_tell_line 18 1) (h1_tell_line s48 s49 s50 m1 m2)).opt) (fun s64 s65 s66 m2 => (Lfix C_tell_line (clD C_tell_line 0) (hdOf C_tell_line hd_tell_line) (finW C_tell_line 18 [Ty.str] (res1 Ty.str)) n (todoOf C_tell_line 18 2) (h2_tell_line s64 s65 s66 m2)).opt) s48 s49 s50 m1 m2) e0).trans ((congrArg (fun x => tell_line_s1 (tell_line_l0 n) x (fun s64 s65 s66 m2 => (Lfix C_tell_line (clD C_tell_line 0) (hdOf C_tell_line hd_tell_line) (finW C_tell_line 18 [Ty.str] (res1 Ty.str)) n (todoOf C_tell_line 18 2) (h2_tell_line s64 s65 s66 m2)).opt) s48 s49 s50 m1 m2) e1).trans (congrArg (fun x => tell_line_s1 (tell_line_l0 n) (tell_line_l1 n) x  s48 s49 s50 m1 m2) e2)))), fun s64 s65 s66 m2 => (congrArg D.opt (Lfix_round C_tell_line (clD C_tell_line 0) (hdOf C_tell_line hd_tell_line) 18 2 [Ty.str] (res1 Ty.str) n _)).trans ((rd2_tell_line (Lfix C_tell_line (clD C_tell_line 0) (hdOf C_tell_line hd_tell_line) (finW C_tell_line 18 [Ty.str] (res1 Ty.str)) n) s64 s65 s66 m2).trans ((congrArg (fun x => tell_line_s2  x (fun s48 s49 s50 m1 m2 => (Lfix C_tell_line (clD C_tell_line 0) (hdOf C_tell_line hd_tell_line) (finW C_tell_line 18 [Ty.str] (res1 Ty.str)) n (todoOf C_tell_line 18 1) (h1_tell_line s48 s49 s50 m1 m2)).opt) (fun s64 s65 s66 m2 => (Lfix C_tell_line (clD C_tell_line 0) (hdOf C_tell_line hd_tell_line) (finW C_tell_line 18 [Ty.str] (res1 Ty.str)) n (todoOf C_tell_line 18 2) (h2_tell_line s64 s65 s66 m2)).opt) s64 s65 s66 m2) e0).trans ((congrArg (fun x => tell_line_s2 (tell_line_l0 n) x (fun s64 s65 s66 m2 => (Lfix C_tell_line (clD C_tell_line 0) (hdOf C_tell_line hd_tell_line) (finW C_tell_line 18 [Ty.str] (res1 Ty.str)) n (todoOf C_tell_line 18 2) (h2_tell_line s64 s65 s66 m2)).opt) s64 s65 s66 m2) e1).trans (congrArg (fun x => tell_line_s2 (tell_line_l0 n) (tell_line_l1 n) x  s64 s65 s66 m2) e2))))⟩
theorem ev_tell_line (n : Nat) (a0 : Event) : (runF C_tell_line (clD C_tell_line 0) (hdOf C_tell_line hd_tell_line) 18 [Ty.str] (res1 Ty.str) n [encV E (Ty.st 6) a0]).opt = tell_line_n n a0 := by
  have ih := fx_tell_line n
  have e0 : (fun s26 s27 s28 m1 m2 => (Lfix C_tell_line (clD C_tell_line 0) (hdOf C_tell_line hd_tell_line) (finW C_tell_line 18 [Ty.str] (res1 Ty.str)) n (todoOf C_tell_line 18 0) (h0_tell_line s26 s27 s28 m1 m2)).opt) = tell_line_l0 n := funext fun s26 => funext fun s27 => funext fun s28 => funext fun m1 => funext fun m2 => ih.1 s26 s27 s28 m1 m2
  have e1 : (fun s48 s49 s50 m1 m2 => (Lfix C_tell_line (clD C_tell_line 0) (hdOf C_tell_line hd_tell_line) (finW C_tell_line 18 [Ty.str] (res1 Ty.str)) n (todoOf C_tell_line 18 1) (h1_tell_line s48 s49 s50 m1 m2)).opt) = tell_line_l1 n := funext fun s48 => funext fun s49 => funext fun s50 => funext fun m1 => funext fun m2 => ih.2.1 s48 s49 s50 m1 m2
  have e2 : (fun s64 s65 s66 m2 => (Lfix C_tell_line (clD C_tell_line 0) (hdOf C_tell_line hd_tell_line) (finW C_tell_line 18 [Ty.str] (res1 Ty.str)) n (todoOf C_tell_line 18 2) (h2_tell_line s64 s65 s66 m2)).opt) = tell_line_l2 n := funext fun s64 => funext fun s65 => funext fun s66 => funext fun m2 => ih.2.2 s64 s65 s66 m2
  exact (congrArg D.opt (runF_eq C_tell_line (clD C_tell_line 0) (hdOf C_tell_line hd_tell_line) 18 [Ty.str] (res1 Ty.str) n _)).trans ((en_tell_line (Lfix C_tell_line (clD C_tell_line 0) (hdOf C_tell_line hd_tell_line) (finW C_tell_line 18 [Ty.str] (res1 Ty.str)) n) a0).trans ((congrArg (fun x => tell_line_e  x (fun s48 s49 s50 m1 m2 => (Lfix C_tell_line (clD C_tell_line 0) (hdOf C_tell_line hd_tell_line) (finW C_tell_line 18 [Ty.str] (res1 Ty.str)) n (todoOf C_tell_line 18 1) (h1_tell_line s48 s49 s50 m1 m2)).opt) (fun s64 s65 s66 m2 => (Lfix C_tell_line (clD C_tell_line 0) (hdOf C_tell_line hd_tell_line) (finW C_tell_line 18 [Ty.str] (res1 Ty.str)) n (todoOf C_tell_line 18 2) (h2_tell_line s64 s65 s66 m2)).opt) a0) e0).trans ((congrArg (fun x => tell_line_e (tell_line_l0 n) x (fun s64 s65 s66 m2 => (Lfix C_tell_line (clD C_tell_line 0) (hdOf C_tell_line hd_tell_line) (finW C_tell_line 18 [Ty.str] (res1 Ty.str)) n (todoOf C_tell_line 18 2) (h2_tell_line s64 s65 s66 m2)).opt) a0) e1).trans (congrArg (fun x => tell_line_e (tell_line_l0 n) (tell_line_l1 n) x  a0) e2))))
theorem ok_tell_line : SpecOK C_tell_line 18 sp_tell_line := by
  have hS := specs_ok (C := C_tell_line) (l := us_tell_line) rfl ⟨ok_strconv_Itoa.re rfl rfl rfl, ok_addr_Text.re rfl rfl rfl, ok_strings_Join.re rfl rfl rfl, trivial⟩
  refine spec_ok (C := C_tell_line) (cl := (clD C_tell_line 0)) (hd := (hdOf C_tell_line hd_tell_line)) envOK (tyOK_of (l := tab) rfl tabT) hS (clD_ok envOK (tyOK_of (l := tab) rfl tabT) hS mixed (inl_ok (l := []) rfl (by kernel_rfl)) _) mixed (hdOf_ok envOK hd_tell_line) (by kernel_rfl) [Ty.str] (res1 Ty.str) (de1 (S := S) Ty.str) fun cs r h => ?_
  obtain ⟨a0, rfl, h⟩ := inv1 h
  exact ⟨big, (ev_tell_line big a0).trans ((def_tell_line a0).symm.trans h)⟩
-- lodger/tell.Put
def sp_tell_Put : Spec S := { args := [(Ty.slice (Ty.st 6))], R := (List UInt8) × Int, run := run1 (Ty.slice (Ty.st 6)) tell_Put, enc := enc2 (S := S) Ty.str i64 }
def spb_tell_Put (F : (List Event) → Option ((List UInt8) × Int)) : Spec S := { args := [(Ty.slice (Ty.st 6))], R := (List UInt8) × Int, run := run1 (Ty.slice (Ty.st 6)) F, enc := enc2 (S := S) Ty.str i64 }
-- strings.Split
end Go.Lv.Ld
namespace Go.Proofs
open Go.Shelf
def Tryd.lvstrings_Split_ren : Go.Shelf.Ren := ⟨fun | 146 => 36 | 221 => 58 | 268 => 68 | 138 => 69 | 143 => 57 | 195 => 85 | 197 => 56 | 218 => 86 | 219 => 67 | 260 => 66 | 217 => 81 | 225 => 82 | 224 => 83 | 267 => 84 | 266 => 95 | 314 => 96 | n => n, fun | 9 => 9 | 31 => 68 | 3 => 3 | 4 => 4 | 0 => 0 | 105 => 93 | 21 => 21 | 5 => 5 | 46 => 90 | 119 => 116 | 139 => 119 | 138 => 118 | 146 => 133 | 51 => 37 | n => n, fun | 1 => 2 | 3 => 0 | 4 => 1 | n => n⟩
theorem Tryd.lvstrings_Split : Go.Proofs.LaysM.n146 Tryd.prog Tryd.lvstrings_Split_ren := {
  mixed := by kernel_rfl
  f138 := Tryd.func69.trans (congrArg some (by kernel_rfl))
  f143 := Tryd.func57.trans (congrArg some (by kernel_rfl))
  f146 := Tryd.func36.trans (congrArg some (by kernel_rfl))
  f195 := Tryd.func85.trans (congrArg some (by kernel_rfl))
  f197 := Tryd.func56.trans (congrArg some (by kernel_rfl))
  f217 := Tryd.func81.trans (congrArg some (by kernel_rfl))
  f218 := Tryd.func86.trans (congrArg some (by kernel_rfl))
  f219 := Tryd.func67.trans (congrArg some (by kernel_rfl))
  f221 := Tryd.func58.trans (congrArg some (by kernel_rfl))
  f224 := Tryd.func83.trans (congrArg some (by kernel_rfl))
  f225 := Tryd.func82.trans (congrArg some (by kernel_rfl))
  f260 := Tryd.func66.trans (congrArg some (by kernel_rfl))
  f266 := Tryd.func95.trans (congrArg some (by kernel_rfl))
  f267 := Tryd.func84.trans (congrArg some (by kernel_rfl))
  f268 := Tryd.func68.trans (congrArg some (by kernel_rfl))
  f314 := Tryd.func96.trans (congrArg some (by kernel_rfl))
  t0 := Tryd.underlying0
  a0 := Tryd.isAgg0
  z0 := Tryd.sizeOf0
  v0 := Tryd.zeroValue0
  t3 := Tryd.underlying3
  a3 := Tryd.isAgg3
  z3 := Tryd.sizeOf3
  v3 := Tryd.zeroValue3
  t4 := Tryd.underlying4
  a4 := Tryd.isAgg4
  z4 := Tryd.sizeOf4
  v4 := Tryd.zeroValue4
  t5 := Tryd.underlying5
  a5 := Tryd.isAgg5
  z5 := Tryd.sizeOf5
  v5 := Tryd.zeroValue5
  t9 := Tryd.underlying9
  a9 := Tryd.isAgg9
  z9 := Tryd.sizeOf9
  v9 := Tryd.zeroValue9
  t21 := Tryd.underlying21
  a21 := Tryd.isAgg21
  z21 := Tryd.sizeOf21
  v21 := Tryd.zeroValue21
  t31 := Tryd.underlying68
  a31 := Tryd.isAgg68
  z31 := Tryd.sizeOf68
  v31 := Tryd.zeroValue68
  t46 := Tryd.underlying90
  a46 := Tryd.isAgg90
  z46 := Tryd.sizeOf90
  v46 := Tryd.zeroValue90
  t51 := Tryd.underlying37
  a51 := Tryd.isAgg37
  z51 := Tryd.sizeOf37
  v51 := Tryd.zeroValue37
  t105 := Tryd.underlying93
  a105 := Tryd.isAgg93
  z105 := Tryd.sizeOf93
  v105 := Tryd.zeroValue93
  t119 := Tryd.underlying116
  a119 := Tryd.isAgg116
  z119 := Tryd.sizeOf116
  t138 := Tryd.underlying118
  a138 := Tryd.isAgg118
  z138 := Tryd.sizeOf118
  v138 := Tryd.zeroValue118
  t139 := Tryd.underlying119
  a139 := Tryd.isAgg119
  z139 := Tryd.sizeOf119
  v139 := Tryd.zeroValue119
  t146 := Tryd.underlying133
  a146 := Tryd.isAgg133
  z146 := Tryd.sizeOf133
  v146 := Tryd.zeroValue133
  g1 := by kernel_rfl
  g3 := by kernel_rfl
  g4 := by kernel_rfl
  i0 := by kernel_rfl
  i3 := by kernel_rfl
  i4 := by kernel_rfl
  i5 := by kernel_rfl
  i9 := by kernel_rfl
  i21 := by kernel_rfl
  i31 := by kernel_rfl
  i46 := by kernel_rfl
  i51 := by kernel_rfl
  i105 := by kernel_rfl
  i138 := by kernel_rfl
  i139 := by kernel_rfl
  i146 := by kernel_rfl
  m1 := by kernel_rfl
  s1_3 := fun w h => Go.Proofs.cell_of_shapedOpen_int (zero := #[.int .i64 0]) (t := 3) h (of_decide_eq_true (by kernel_rfl)) (by kernel_rfl) rfl (by kernel_rfl) (by kernel_rfl) Tryd.underlying3
  m3 := by kernel_rfl
  m4 := by kernel_rfl }
end Go.Proofs
namespace Go.Lv.Ld
open Go Go.Lv Go.Proofs
set_option linter.all false
set_option maxRecDepth 100000
def sp_strings_Split : Spec S := { args := [Ty.str, Ty.str], R := (List (List UInt8)), run := run2 Ty.str Ty.str strings_Split, enc := enc1 (S := S) (Ty.slice Ty.str) }
def spb_strings_Split (F : (List UInt8) → (List UInt8) → Option ((List (List UInt8)))) : Spec S := { args := [Ty.str, Ty.str], R := (List (List UInt8)), run := run2 Ty.str Ty.str F, enc := enc1 (S := S) (Ty.slice Ty.str) }
noncomputable def C_strings_Split : Ctx S := { P := Tryd.prog, E := E, ty := tyL tab, G := glL gtab, spec := fun _ => none, inl := fun _ => false }
theorem ok_strings_Split : SpecOK C_strings_Split 36 sp_strings_Split := ok_Split (C := C_strings_Split) (ρ := Tryd.lvstrings_Split_ren) { Tryd.lvstrings_Split with } (lvEnters (by kernel_rfl)) Tryd.lvstrings_Split.i9
-- strconv.Atoi
end Go.Lv.Ld
namespace Go.Proofs
open Go.Shelf
def Tryd.lvstrconv_Atoi_ren : Go.Shelf.Ren := ⟨fun | 172 => 40 | 244 => 60 | 245 => 61 | 247 => 71 | 279 => 72 | 280 => 73 | 281 => 74 | 282 => 75 | 287 => 87 | 316 => 88 | 171 => 31 | 205 => 89 | 321 => 97 | 322 => 98 | 243 => 53 | 246 => 64 | 283 => 76 | 284 => 77 | 285 => 78 | 286 => 79 | 129 => 91 | 317 => 90 | 318 => 92 | 319 => 93 | 320 => 94 | 337 => 99 | 338 => 100 | n => n, fun | 9 => 9 | 3 => 3 | 75 => 53 | 76 => 54 | 4 => 4 | 5 => 5 | 167 => 103 | 37 => 49 | 0 => 0 | 85 => 104 | 2 => 2 | 168 => 106 | 53 => 110 | 175 => 123 | 46 => 90 | 210 => 127 | 127 => 71 | 145 => 138 | 143 => 136 | 21 => 21 | 171 => 109 | 173 => 113 | 212 => 130 | 51 => 37 | 20 => 20 | 213 => 131 | 232 => 140 | 233 => 141 | 80 => 57 | n => n, fun | 15 => 3 | 16 => 4 | 17 => 5 | 18 => 6 | 19 => 7 | n => n⟩
theorem Tryd.lvstrconv_Atoi : Go.Proofs.LaysC.n172 Tryd.prog Tryd.lvstrconv_Atoi_ren := {
  mixed := by kernel_rfl
  f129 := Tryd.func91.trans (congrArg some (by kernel_rfl))
  f171 := Tryd.func31.trans (congrArg some (by kernel_rfl))
  f172 := Tryd.func40.trans (congrArg some (by kernel_rfl))
  f205 := Tryd.func89.trans (congrArg some (by kernel_rfl))
  f243 := Tryd.func53.trans (congrArg some (by kernel_rfl))
  f244 := Tryd.func60.trans (congrArg some (by kernel_rfl))
  f245 := Tryd.func61.trans (congrArg some (by kernel_rfl))
  f246 := Tryd.func64.trans (congrArg some (by kernel_rfl))
  f247 := Tryd.func71.trans (congrArg some (by kernel_rfl))
  f279 := Tryd.func72.trans (congrArg some (by kernel_rfl))
  f280 := Tryd.func73.trans (congrArg some (by kernel_rfl))
  f281 := Tryd.func74.trans (congrArg some (by kernel_rfl))
  f282 := Tryd.func75.trans (congrArg some (by kernel_rfl))
  f283 := Tryd.func76.trans (congrArg some (by kernel_rfl))
  f284 := Tryd.func77.trans (congrArg some (by kernel_rfl))
  f285 := Tryd.func78.trans (congrArg some (by kernel_rfl))
  f286 := Tryd.func79.trans (congrArg some (by kernel_rfl))
  f287 := Tryd.func87.trans (congrArg some (by kernel_rfl))
  f316 := Tryd.func88.trans (congrArg some (by kernel_rfl))
  f317 := Tryd.func90.trans (congrArg some (by kernel_rfl))
  f318 := Tryd.func92.trans (congrArg some (by kernel_rfl))
  f319 := Tryd.func93.trans (congrArg some (by kernel_rfl))
  f320 := Tryd.func94.trans (congrArg some (by kernel_rfl))
  f321 := Tryd.func97.trans (congrArg some (by kernel_rfl))
  f322 := Tryd.func98.trans (congrArg some (by kernel_rfl))
  f337 := Tryd.func99.trans (congrArg some (by kernel_rfl))
  f338 := Tryd.func100.trans (congrArg some (by kernel_rfl))
  t0 := Tryd.underlying0
  a0 := Tryd.isAgg0
  z0 := Tryd.sizeOf0
  v0 := Tryd.zeroValue0
  t2 := Tryd.underlying2
  a2 := Tryd.isAgg2
  z2 := Tryd.sizeOf2
  v2 := Tryd.zeroValue2
  t3 := Tryd.underlying3
  a3 := Tryd.isAgg3
  z3 := Tryd.sizeOf3
  v3 := Tryd.zeroValue3
  t4 := Tryd.underlying4
  a4 := Tryd.isAgg4
  z4 := Tryd.sizeOf4
  v4 := Tryd.zeroValue4
  t5 := Tryd.underlying5
  a5 := Tryd.isAgg5
  z5 := Tryd.sizeOf5
  v5 := Tryd.zeroValue5
  t9 := Tryd.underlying9
  a9 := Tryd.isAgg9
  z9 := Tryd.sizeOf9
  v9 := Tryd.zeroValue9
  t20 := Tryd.underlying20
  a20 := Tryd.isAgg20
  z20 := Tryd.sizeOf20
  v20 := Tryd.zeroValue20
  t21 := Tryd.underlying21
  a21 := Tryd.isAgg21
  z21 := Tryd.sizeOf21
  v21 := Tryd.zeroValue21
  t37 := Tryd.underlying49
  a37 := Tryd.isAgg49
  z37 := Tryd.sizeOf49
  v37 := Tryd.zeroValue49
  t46 := Tryd.underlying90
  a46 := Tryd.isAgg90
  z46 := Tryd.sizeOf90
  v46 := Tryd.zeroValue90
  t51 := Tryd.underlying37
  a51 := Tryd.isAgg37
  z51 := Tryd.sizeOf37
  v51 := Tryd.zeroValue37
  t53 := Tryd.underlying110
  a53 := Tryd.isAgg110
  z53 := Tryd.sizeOf110
  v53 := Tryd.zeroValue110
  t75 := Tryd.underlying53
  a75 := Tryd.isAgg53
  z75 := Tryd.sizeOf53
  v75 := Tryd.zeroValue53
  t76 := Tryd.underlying54
  a76 := Tryd.isAgg54
  z76 := Tryd.sizeOf54
  v76 := Tryd.zeroValue54
  t85 := Tryd.underlying104
  a85 := Tryd.isAgg104
  z85 := Tryd.sizeOf104
  v85 := Tryd.zeroValue104
  t127 := Tryd.underlying71
  a127 := Tryd.isAgg71
  z127 := Tryd.sizeOf71
  v127 := Tryd.zeroValue71
  t143 := Tryd.underlying136
  a143 := Tryd.isAgg136
  z143 := Tryd.sizeOf136
  v143 := Tryd.zeroValue136
  t145 := Tryd.underlying138
  a145 := Tryd.isAgg138
  z145 := Tryd.sizeOf138
  v145 := Tryd.zeroValue138
  t167 := Tryd.underlying103
  a167 := Tryd.isAgg103
  z167 := Tryd.sizeOf103
  v167 := Tryd.zeroValue103
  t168 := Tryd.underlying106
  a168 := Tryd.isAgg106
  z168 := Tryd.sizeOf106
  v168 := Tryd.zeroValue106
  t171 := Tryd.underlying109
  a171 := Tryd.isAgg109
  z171 := Tryd.sizeOf109
  v171 := Tryd.zeroValue109
  t173 := Tryd.underlying113
  a173 := Tryd.isAgg113
  z173 := Tryd.sizeOf113
  v173 := Tryd.zeroValue113
  t175 := Tryd.underlying123
  a175 := Tryd.isAgg123
  z175 := Tryd.sizeOf123
  v175 := Tryd.zeroValue123
  t210 := Tryd.underlying127
  a210 := Tryd.isAgg127
  z210 := Tryd.sizeOf127
  v210 := Tryd.zeroValue127
  t212 := Tryd.underlying130
  a212 := Tryd.isAgg130
  z212 := Tryd.sizeOf130
  v212 := Tryd.zeroValue130
  t213 := Tryd.underlying131
  a213 := Tryd.isAgg131
  z213 := Tryd.sizeOf131
  t232 := Tryd.underlying140
  a232 := Tryd.isAgg140
  z232 := Tryd.sizeOf140
  v232 := Tryd.zeroValue140
  t233 := Tryd.underlying141
  a233 := Tryd.isAgg141
  z233 := Tryd.sizeOf141
  v233 := Tryd.zeroValue141
  g15 := by kernel_rfl
  g16 := by kernel_rfl
  g17 := by kernel_rfl
  g18 := by kernel_rfl
  g19 := by kernel_rfl
  t80 := Tryd.underlying57
  a80 := Tryd.isAgg57
  z80 := Tryd.sizeOf57
  v80 := Tryd.zeroValue57
  i0 := by kernel_rfl
  i2 := by kernel_rfl
  i3 := by kernel_rfl
  i4 := by kernel_rfl
  i5 := by kernel_rfl
  i9 := by kernel_rfl
  i20 := by kernel_rfl
  i21 := by kernel_rfl
  i37 := by kernel_rfl
  i46 := by kernel_rfl
  i51 := by kernel_rfl
  i53 := by kernel_rfl
  i75 := by kernel_rfl
  i76 := by kernel_rfl
  i80 := by kernel_rfl
  i85 := by kernel_rfl
  i127 := by kernel_rfl
  i143 := by kernel_rfl
  i145 := by kernel_rfl
  i167 := by kernel_rfl
  i168 := by kernel_rfl
  i171 := by kernel_rfl
  i173 := by kernel_rfl
  i175 := by kernel_rfl
  i210 := by kernel_rfl
  i212 := by kernel_rfl
  i232 := by kernel_rfl
  i233 := by kernel_rfl
  m15 := by kernel_rfl
  m16 := by kernel_rfl
  m17 := by kernel_rfl
  m18 := by kernel_rfl
  m19 := by kernel_rfl
  c0 := by kernel_rfl
  c2 := by kernel_rfl
  c3 := by kernel_rfl
  c4 := by kernel_rfl
  c5 := by kernel_rfl
  c9 := by kernel_rfl
  c20 := by kernel_rfl
  c21 := by kernel_rfl
  c37 := by kernel_rfl
  c46 := by kernel_rfl
  c51 := by kernel_rfl
  c53 := by kernel_rfl
  c75 := by kernel_rfl
  c76 := by kernel_rfl
  c80 := by kernel_rfl
  c85 := by kernel_rfl
  c127 := by kernel_rfl
  c143 := by kernel_rfl
  c145 := by kernel_rfl
  c167 := by kernel_rfl
  c168 := by kernel_rfl
  c171 := by kernel_rfl
  c173 := by kernel_rfl
  c175 := by kernel_rfl
  c210 := by kernel_rfl
  c212 := by kernel_rfl
  c213 := by kernel_rfl
  c232 := by kernel_rfl
  c233 := by kernel_rfl }
end Go.Proofs
namespace Go.Lv.Ld
open Go Go.Lv Go.Proofs
set_option linter.all false
set_option maxRecDepth 100000
def sp_strconv_Atoi : Spec S := { args := [Ty.str], R := Int × Bool, run := run1 Ty.str strconv_Atoi, enc := enc2 (S := S) i64 Ty.err }
def spb_strconv_Atoi (F : (List UInt8) → Option (Int × Bool)) : Spec S := { args := [Ty.str], R := Int × Bool, run := run1 Ty.str F, enc := enc2 (S := S) i64 Ty.err }
noncomputable def C_strconv_Atoi : Ctx S := { P := Tryd.prog, E := E, ty := tyL tab, G := glL gtab, spec := fun _ => none, inl := fun _ => false }
theorem ok_strconv_Atoi : SpecOK C_strconv_Atoi 40 sp_strconv_Atoi := ok_Atoi (C := C_strconv_Atoi) (ρ := Tryd.lvstrconv_Atoi_ren) Tryd.lvstrconv_Atoi (lvEnters (by kernel_rfl)) (by kernel_rfl) (by kernel_rfl)
-- lodger/addr.Parse
def addr_Parse_s0b (g_addr_Text : Int → Option ((List UInt8))) (g_strings_Split : (List UInt8) → (List UInt8) → Option ((List (List UInt8)))) (g_strconv_Atoi : (List UInt8) → Option (Int × Bool)) (k0 : (List UInt8) → (List (List UInt8)) → Int → (List (List UInt8)) → Int → Int → Option (Int × Int)) (s0 : (List UInt8)) (s4 : (List (List UInt8))) (s5 : Int) (s12 : (List (List UInt8))) (s13 : Int) (s14 : Int) : Option (Int × Int) := (bif (decide (s14 < s13)) then ((geti s12 s14).bind fun x2 => ((g_strconv_Atoi x2).bind fun r3 => (bif r3.2 then (bif ((List.length s4 : Int) != 4) then some (0, 2) else ((g_addr_Text s5).bind fun r4 => (bif (!(r4 == s0)) then some (0, 2) else some (s5, 0)))) else (bif (decide (r3.1 < 0)) then (bif ((List.length s4 : Int) != 4) then some (0, 2) else ((g_addr_Text s5).bind fun r5 => (bif (!(r5 == s0)) then some (0, 2) else some (s5, 0)))) else (bif (decide (r3.1 > 255)) then (bif ((List.length s4 : Int) != 4) then some (0, 2) else ((g_addr_Text s5).bind fun r6 => (bif (!(r6 == s0)) then some (0, 2) else some (s5, 0)))) else k0 s0 s4 (bit_or .u32 (shl .u32 s5 8) (IntKind.wrap .u32 r3.1)) s12 s13 (IntKind.wrap .i64 (s14 + 1))))))) else (bif ((List.length s4 : Int) != 4) then some (0, 2) else ((g_addr_Text s5).bind fun r7 => (bif (!(r7 == s0)) then some (0, 2) else some (s5, 0)))))
def addr_Parse_eb (g_addr_Text : Int → Option ((List UInt8))) (g_strings_Split : (List UInt8) → (List UInt8) → Option ((List (List UInt8)))) (g_strconv_Atoi : (List UInt8) → Option (Int × Bool)) (k0 : (List UInt8) → (List (List UInt8)) → Int → (List (List UInt8)) → Int → Int → Option (Int × Int)) (a0 : (List UInt8)) : Option (Int × Int) := ((g_strings_Split a0 ([46] : List UInt8)).bind fun r1 => k0 a0 r1 0 r1 (List.length r1 : Int) 0)
def sp_addr_Parse : Spec S := { args := [Ty.str], R := Int × Int, run := run1 Ty.str addr_Parse, enc := enc2 (S := S) u32 i64 }
def spb_addr_Parse (F : (List UInt8) → Option (Int × Int)) : Spec S := { args := [Ty.str], R := Int × Int, run := run1 Ty.str F, enc := enc2 (S := S) u32 i64 }
def usb_addr_Parse (g_addr_Text : Int → Option ((List UInt8))) (g_strings_Split : (List UInt8) → (List UInt8) → Option ((List (List UInt8)))) (g_strconv_Atoi : (List UInt8) → Option (Int × Bool)) : List (Nat × Spec S) := [(32, spb_addr_Text g_addr_Text), (36, spb_strings_Split g_strings_Split), (40, spb_strconv_Atoi g_strconv_Atoi)]
def us_addr_Parse : List (Nat × Spec S) := [(32, sp_addr_Text), (36, sp_strings_Split), (40, sp_strconv_Atoi)]
noncomputable def Cb_addr_Parse (g_addr_Text : Int → Option ((List UInt8))) (g_strings_Split : (List UInt8) → (List UInt8) → Option ((List (List UInt8)))) (g_strconv_Atoi : (List UInt8) → Option (Int × Bool)) : Ctx S := { P := Tryd.prog, E := E, ty := tyL tab, G := glL gtab, spec := spL (usb_addr_Parse g_addr_Text g_strings_Split g_strconv_Atoi), inl := inL [] }
noncomputable def C_addr_Parse : Ctx S := Cb_addr_Parse addr_Text strings_Split strconv_Atoi
def hd_addr_Parse : List ((Nat × Nat) × List Hs) := [((3, 4), [.canon 0 [] [0, 4, 5, 12, 13, 14], .plain 0 Ty.str, .plain 4 (Ty.slice Ty.str), .plain 5 u32, .plain 12 (Ty.slice Ty.str), .plain 13 i64, .plain 14 i64])]
def h0_addr_Parse (s0 : (List UInt8)) (s4 : (List (List UInt8))) (s5 : Int) (s12 : (List (List UInt8))) (s13 : Int) (s14 : Int) : St S := { tmps := [.cell Ty.str s0, .undef, .undef, .undef, .cell (Ty.slice Ty.str) s4, .cell u32 s5, .undef, .undef, .undef, .undef, .undef, .undef, .cell (Ty.slice Ty.str) s12, .cell i64 s13, .cell i64 s14, .undef, .undef, .undef, .undef, .undef, .undef, .undef, .undef, .undef, .undef, .undef, .undef, .undef, .undef, .undef, .undef, .undef, .undef, .undef, .undef, .undef, .undef, .undef, .undef, .undef, .undef, .undef, .undef, .undef, .undef, .undef, .undef, .undef, .undef], mem := [] }
theorem rdb0_addr_Parse (g_addr_Text : Int → Option ((List UInt8))) (g_strings_Split : (List UInt8) → (List UInt8) → Option ((List (List UInt8)))) (g_strconv_Atoi : (List UInt8) → Option (Int × Bool)) (L : Lp S (Int × Int)) (s0 : (List UInt8)) (s4 : (List (List UInt8))) (s5 : Int) (s12 : (List (List UInt8))) (s13 : Int) (s14 : Int) : (roundWF (Cb_addr_Parse g_addr_Text g_strings_Split g_strconv_Atoi) (clDF (Cb_addr_Parse g_addr_Text g_strings_Split g_strconv_Atoi) 0) (hdOf (Cb_addr_Parse g_addr_Text g_strings_Split g_strconv_Atoi) hd_addr_Parse) 41 0 [u32, i64] (res2 u32 i64) L (h0_addr_Parse s0 s4 s5 s12 s13 s14)).opt = addr_Parse_s0b g_addr_Text g_strings_Split g_strconv_Atoi (fun s0 s4 s5 s12 s13 s14 => (L (todoOf (Cb_addr_Parse g_addr_Text g_strings_Split g_strconv_Atoi) 41 0) (h0_addr_Parse s0 s4 s5 s12 s13 s14)).opt) s0 s4 s5 s12 s13 s14 := by kernel_rfl
theorem rd0_addr_Parse (L : Lp S (Int × Int)) (s0 : (List UInt8)) (s4 : (List (List UInt8))) (s5 : Int) (s12 : (List (List UInt8))) (s13 : Int) (s14 : Int) : (roundW C_addr_Parse (clD C_addr_Parse 0) (hdOf C_addr_Parse hd_addr_Parse) 41 0 [u32, i64] (res2 u32 i64) L (h0_addr_Parse s0 s4 s5 s12 s13 s14)).opt = addr_Parse_s0 (fun s0 s4 s5 s12 s13 s14 => (L (todoOf C_addr_Parse 41 0) (h0_addr_Parse s0 s4 s5 s12 s13 s14)).opt) s0 s4 s5 s12 s13 s14 := (congrArg D.opt (roundWF_eq _ _ _ _ _ _ _ L _)).trans (rdb0_addr_Parse addr_Text strings_Split strconv_Atoi L s0 s4 s5 s12 s13 s14)
theorem enb_addr_Parse (g_addr_Text : Int → Option ((List UInt8))) (g_strings_Split : (List UInt8) → (List UInt8) → Option ((List (List UInt8)))) (g_strconv_Atoi : (List UInt8) → Option (Int × Bool)) (L : Lp S (Int × Int)) (a0 : (List UInt8)) : (runWF (Cb_addr_Parse g_addr_Text g_strings_Split g_strconv_Atoi) (clDF (Cb_addr_Parse g_addr_Text g_strings_Split g_strconv_Atoi) 0) (fun _ => canonL (hdOf (Cb_addr_Parse g_addr_Text g_strings_Split g_strconv_Atoi) hd_addr_Parse) L) 41 [u32, i64] (res2 u32 i64) [encV E Ty.str a0]).opt = addr_Parse_eb g_addr_Text g_strings_Split g_strconv_Atoi (fun s0 s4 s5 s12 s13 s14 => (L (todoOf (Cb_addr_Parse g_addr_Text g_strings_Split g_strconv_Atoi) 41 0) (h0_addr_Parse s0 s4 s5 s12 s13 s14)).opt) a0 := by kernel_rfl
theorem en_addr_Parse (L : Lp S (Int × Int)) (a0 : (List UInt8)) : (runW C_addr_Parse (clD C_addr_Parse 0) (fun _ => canonL (hdOf C_addr_Parse hd_addr_Parse) L) 41 [u32, i64] (res2 u32 i64) [encV E Ty.str a0]).opt = addr_Parse_e (fun s0 s4 s5 s12 s13 s14 => (L (todoOf C_addr_Parse 41 0) (h0_addr_Parse s0 s4 s5 s12 s13 s14)).opt) a0 := (congrArg D.opt (runWF_eq _ _ _ _ _ _ _)).trans (enb_addr_Parse addr_Text strings_Split strconv_Atoi L a0)
theorem fx_addr_Parse : ∀ n, (∀ (s0 : (List UInt8)) (s4 : (List (List UInt8))) (s5 : Int) (s12 : (List (List UInt8))) (s13 : Int) (s14 : Int), (Lfix C_addr_Parse (clD C_addr_Parse 0) (hdOf C_addr_Parse hd_addr_Parse) (finW C_addr_Parse 41 [u32, i64] (res2 u32 i64)) n (todoOf C_addr_Parse 41 0) (h0_addr_Parse s0 s4 s5 s12 s13 s14)).opt = addr_Parse_l0 n s0 s4 s5 s12 s13 s14)
  | 0 => fun _ _ _ _ _ _ => rfl
  | n + 1 => by
    have ih := fx_addr_Parse n
    have e0 : (fun s0 s4 s5 s12 s13 s14 => (Lfix C_addr_Parse (clD C_addr_Parse 0) (hdOf C_addr_Parse hd_addr_Parse) (finW C_addr_Parse 41 [u32, i64] (res2 u32 i64)) n (todoOf C_addr_Parse 41 0) (h0_addr_Parse s0 s4 s5 s12 s13 s14)).opt) = addr_Parse_l0 n := funext fun s0 => funext fun s4 => funext fun s5 => funext fun s12 => funext fun s13 => funext fun s14 => ih s0 s4 s5 s12 s13 s14
    exact fun s0 s4 s5 s12 s13 s14 => (congrArg D.opt (Lfix_round C_addr_Parse (clD C_addr_Parse 0) (hdOf C_addr_Parse hd_addr_Parse) 41 0 [u32, i64] (res2 u32 i64) n _)).trans ((rd0_addr_Parse (Lfix C_addr_Parse (clD C_addr_Parse 0) (hdOf C_addr_Parse hd_addr_Parse) (finW C_addr_Parse 41 [u32, i64] (res2 u32 i64)) n) s0 s4 s5 s12 s13 s14).trans (congrArg (fun x => addr_Parse_s0  x  s0 s4 s5 s12 s13 s14) e0))
theorem ev_addr_Parse (n : Nat) (a0 : (List UInt8)) : (runF C_addr_Parse (clD C_addr_Parse 0) (hdOf C_addr_Parse hd_addr_Parse) 41 [u32, i64] (res2 u32 i64) n [encV E Ty.str a0]).opt = addr_Parse_n n a0 := by
  have ih := fx_addr_Parse n
  have e0 : (fun s0 s4 s5 s12 s13 s14 => (Lfix C_addr_Parse (clD C_addr_Parse 0) (hdOf C_addr_Parse hd_addr_Parse) (finW C_addr_Parse 41 [u32, i64] (res2 u32 i64)) n (todoOf C_addr_Parse 41 0) (h0_addr_Parse s0 s4 s5 s12 s13 s14)).opt) = addr_Parse_l0 n := funext fun s0 => funext fun s4 => funext fun s5 => funext fun s12 => funext fun s13 => funext fun s14 => ih s0 s4 s5 s12 s13 s14
  exact (congrArg D.opt (runF_eq C_addr_Parse (clD C_addr_Parse 0) (hdOf C_addr_Parse hd_addr_Parse) 41 [u32, i64] (res2 u32 i64) n _)).trans ((en_addr_Parse (Lfix C_addr_Parse (clD C_addr_Parse 0) (hdOf C_addr_Parse hd_addr_Parse) (finW C_addr_Parse 41 [u32, i64] (res2 u32 i64)) n) a0).trans (congrArg (fun x => addr_Parse_e  x  a0) e0))
theorem ok_addr_Parse : SpecOK C_addr_Parse 41 sp_addr_Parse := by
  have hS := specs_ok (C := C_addr_Parse) (l := us_addr_Parse) rfl ⟨ok_addr_Text.re rfl rfl rfl, ok_strings_Split.re rfl rfl rfl, ok_strconv_Atoi.re rfl rfl rfl, trivial⟩
  refine spec_ok (C := C_addr_Parse) (cl := (clD C_addr_Parse 0)) (hd := (hdOf C_addr_Parse hd_addr_Parse)) envOK (tyOK_of (l := tab) rfl tabT) hS (clD_ok envOK (tyOK_of (l := tab) rfl tabT) hS mixed (inl_ok (l := []) rfl (by kernel_rfl)) _) mixed (hdOf_ok envOK hd_addr_Parse) (by kernel_rfl) [u32, i64] (res2 u32 i64) (de2 (S := S) u32 i64) fun cs r h => ?_
  obtain ⟨a0, rfl, h⟩ := inv1 h
  exact ⟨big, (ev_addr_Parse big a0).trans ((def_addr_Parse a0).symm.trans h)⟩
-- lodger/tell.read
def tell_read_s0b (g_strings_Split : (List UInt8) → (List UInt8) → Option ((List (List UInt8)))) (g_strconv_Atoi : (List UInt8) → Option (Int × Bool)) (g_addr_Parse : (List UInt8) → Option (Int × Int)) (k0 : Int → Int → Int → Int → Int → Int → Int → Bool → (List (List UInt8)) → Int → Int → Int → Int → Int → Int → Int → Bool → (List Int) → Option (Event)) (k1 : Int → Int → Int → Int → Int → Int → Int → Bool → (List (List UInt8)) → Int → Int → Int → Int → Int → Int → Int → Bool → (List Int) → (List Int) → Option (Event)) (m0_0 : Int) (m0_1 : Int) (m0_2 : Int) (m0_3 : Int) (m0_4 : Int) (m0_5 : Int) (m0_6 : Int) (m0_7 : Bool) (m1_0 : (List (List UInt8))) (m3_0 : Int) (m3_1 : Int) (m3_2 : Int) (m3_3 : Int) (m3_4 : Int) (m3_5 : Int) (m3_6 : Int) (m3_7 : Bool) (m4 : (List Int)) : Option (Event) := (bif (decide ((List.length m1_0 : Int) > 0)) then ((geti m1_0 0).bind fun x25 => (bif (!(x25 == ([101, 114, 114, 115] : List UInt8))) then ((g_addr_Parse (wHead m1_0)).bind fun r26 => (bif (decide (m4.length + ([r26.1] : List Int).length ≤ maxList)) then k0 m0_0 m0_1 m0_2 m0_3 m0_4 m0_5 m0_6 m0_7 (List.tail m1_0) m3_0 m3_1 m3_2 m3_3 m3_4 m3_5 m3_6 m3_7 (m4 ++ ([r26.1] : List Int)) else none)) else k1 m0_0 m0_1 m0_2 m0_3 m0_4 m0_5 m0_6 m0_7 (List.tail m1_0) m3_0 m3_1 m3_2 m3_3 m3_4 m3_5 m3_6 m3_7 m4 ([] : (List Int)))) else k1 m0_0 m0_1 m0_2 m0_3 m0_4 m0_5 m0_6 m0_7 (List.tail m1_0) m3_0 m3_1 m3_2 m3_3 m3_4 m3_5 m3_6 m3_7 m4 ([] : (List Int)))
def tell_read_s1b (g_strings_Split : (List UInt8) → (List UInt8) → Option ((List (List UInt8)))) (g_strconv_Atoi : (List UInt8) → Option (Int × Bool)) (g_addr_Parse : (List UInt8) → Option (Int × Int)) (k0 : Int → Int → Int → Int → Int → Int → Int → Bool → (List (List UInt8)) → Int → Int → Int → Int → Int → Int → Int → Bool → (List Int) → Option (Event)) (k1 : Int → Int → Int → Int → Int → Int → Int → Bool → (List (List UInt8)) → Int → Int → Int → Int → Int → Int → Int → Bool → (List Int) → (List Int) → Option (Event)) (m0_0 : Int) (m0_1 : Int) (m0_2 : Int) (m0_3 : Int) (m0_4 : Int) (m0_5 : Int) (m0_6 : Int) (m0_7 : Bool) (m1_0 : (List (List UInt8))) (m3_0 : Int) (m3_1 : Int) (m3_2 : Int) (m3_3 : Int) (m3_4 : Int) (m3_5 : Int) (m3_6 : Int) (m3_7 : Bool) (m4 : (List Int)) (m5 : (List Int)) : Option (Event) := (bif (decide ((List.length m1_0 : Int) > 0)) then ((g_strconv_Atoi (wHead m1_0)).bind fun r27 => (bif (decide (m5.length + ([r27.1] : List Int).length ≤ maxList)) then k1 m0_0 m0_1 m0_2 m0_3 m0_4 m0_5 m0_6 m0_7 (List.tail m1_0) m3_0 m3_1 m3_2 m3_3 m3_4 m3_5 m3_6 m3_7 m4 (m5 ++ ([r27.1] : List Int)) else none)) else some (⟨m3_0, m3_1, m3_2, m3_3, m3_4, ⟨m3_5, m3_6, m3_7, m4, m5⟩⟩ : Event))
def tell_read_eb (g_strings_Split : (List UInt8) → (List UInt8) → Option ((List (List UInt8)))) (g_strconv_Atoi : (List UInt8) → Option (Int × Bool)) (g_addr_Parse : (List UInt8) → Option (Int × Int)) (k0 : Int → Int → Int → Int → Int → Int → Int → Bool → (List (List UInt8)) → Int → Int → Int → Int → Int → Int → Int → Bool → (List Int) → Option (Event)) (k1 : Int → Int → Int → Int → Int → Int → Int → Bool → (List (List UInt8)) → Int → Int → Int → Int → Int → Int → Int → Bool → (List Int) → (List Int) → Option (Event)) (a0 : (List UInt8)) : Option (Event) := (bif (decide ((List.length a0 : Int) ≥ (List.length ([10] : List UInt8) : Int))) then (bif (decide ((0 : Int) ≤ (IntKind.wrap .i64 ((List.length a0 : Int) - (List.length ([10] : List UInt8) : Int))) ∧ (IntKind.wrap .i64 ((List.length a0 : Int) - (List.length ([10] : List UInt8) : Int))) ≤ (List.length a0 : Int) ∧ (List.length a0 : Int) ≤ (a0.length : Int))) then (bif (((a0.drop (Int.toNat (IntKind.wrap .i64 ((List.length a0 : Int) - (List.length ([10] : List UInt8) : Int))))).take (Int.toNat (List.length a0 : Int) - Int.toNat (IntKind.wrap .i64 ((List.length a0 : Int) - (List.length ([10] : List UInt8) : Int))))) == ([10] : List UInt8)) then (bif (decide ((0 : Int) ≤ 0 ∧ 0 ≤ (IntKind.wrap .i64 ((List.length a0 : Int) - (List.length ([10] : List UInt8) : Int))) ∧ (IntKind.wrap .i64 ((List.length a0 : Int) - (List.length ([10] : List UInt8) : Int))) ≤ (a0.length : Int))) then ((g_strings_Split ((a0.drop (Int.toNat 0)).take (Int.toNat (IntKind.wrap .i64 ((List.length a0 : Int) - (List.length ([10] : List UInt8) : Int))) - Int.toNat 0)) ([32] : List UInt8)).bind fun r1 => ((g_strconv_Atoi (wHead r1)).bind fun r2 => ((g_strconv_Atoi (wHead (List.tail r1))).bind fun r3 => ((g_strconv_Atoi (wHead (List.tail (List.tail r1)))).bind fun r4 => ((g_strconv_Atoi (wHead (List.tail (List.tail (List.tail r1))))).bind fun r5 => ((g_strconv_Atoi (wHead (List.tail (List.tail (List.tail (List.tail r1)))))).bind fun r6 => ((g_strconv_Atoi (wHead (List.tail (List.tail (List.tail (List.tail (List.tail r1))))))).bind fun r7 => ((g_addr_Parse (wHead (List.tail (List.tail (List.tail (List.tail (List.tail (List.tail r1)))))))).bind fun r8 => k0 0 0 0 0 0 0 0 false (List.tail (List.tail (List.tail (List.tail (List.tail (List.tail (List.tail (List.tail (List.tail r1))))))))) r2.1 r3.1 r4.1 r5.1 r6.1 r7.1 r8.1 ((wHead (List.tail (List.tail (List.tail (List.tail (List.tail (List.tail (List.tail r1)))))))) == ([121, 101, 115] : List UInt8)) ([] : (List Int)))))))))) else none) else ((g_strings_Split a0 ([32] : List UInt8)).bind fun r9 => ((g_strconv_Atoi (wHead r9)).bind fun r10 => ((g_strconv_Atoi (wHead (List.tail r9))).bind fun r11 => ((g_strconv_Atoi (wHead (List.tail (List.tail r9)))).bind fun r12 => ((g_strconv_Atoi (wHead (List.tail (List.tail (List.tail r9))))).bind fun r13 => ((g_strconv_Atoi (wHead (List.tail (List.tail (List.tail (List.tail r9)))))).bind fun r14 => ((g_strconv_Atoi (wHead (List.tail (List.tail (List.tail (List.tail (List.tail r9))))))).bind fun r15 => ((g_addr_Parse (wHead (List.tail (List.tail (List.tail (List.tail (List.tail (List.tail r9)))))))).bind fun r16 => k0 0 0 0 0 0 0 0 false (List.tail (List.tail (List.tail (List.tail (List.tail (List.tail (List.tail (List.tail (List.tail r9))))))))) r10.1 r11.1 r12.1 r13.1 r14.1 r15.1 r16.1 ((wHead (List.tail (List.tail (List.tail (List.tail (List.tail (List.tail (List.tail r9)))))))) == ([121, 101, 115] : List UInt8)) ([] : (List Int))))))))))) else none) else ((g_strings_Split a0 ([32] : List UInt8)).bind fun r17 => ((g_strconv_Atoi (wHead r17)).bind fun r18 => ((g_strconv_Atoi (wHead (List.tail r17))).bind fun r19 => ((g_strconv_Atoi (wHead (List.tail (List.tail r17)))).bind fun r20 => ((g_strconv_Atoi (wHead (List.tail (List.tail (List.tail r17))))).bind fun r21 => ((g_strconv_Atoi (wHead (List.tail (List.tail (List.tail (List.tail r17)))))).bind fun r22 => ((g_strconv_Atoi (wHead (List.tail (List.tail (List.tail (List.tail (List.tail r17))))))).bind fun r23 => ((g_addr_Parse (wHead (List.tail (List.tail (List.tail (List.tail (List.tail (List.tail r17)))))))).bind fun r24 => k0 0 0 0 0 0 0 0 false (List.tail (List.tail (List.tail (List.tail (List.tail (List.tail (List.tail (List.tail (List.tail r17))))))))) r18.1 r19.1 r20.1 r21.1 r22.1 r23.1 r24.1 ((wHead (List.tail (List.tail (List.tail (List.tail (List.tail (List.tail (List.tail r17)))))))) == ([121, 101, 115] : List UInt8)) ([] : (List Int)))))))))))
def sp_tell_read : Spec S := { args := [Ty.str], R := Event, run := run1 Ty.str tell_read, enc := enc1 (S := S) (Ty.st 6) }
def spb_tell_read (F : (List UInt8) → Option (Event)) : Spec S := { args := [Ty.str], R := Event, run := run1 Ty.str F, enc := enc1 (S := S) (Ty.st 6) }
def usb_tell_read (g_strings_Split : (List UInt8) → (List UInt8) → Option ((List (List UInt8)))) (g_strconv_Atoi : (List UInt8) → Option (Int × Bool)) (g_addr_Parse : (List UInt8) → Option (Int × Int)) : List (Nat × Spec S) := [(36, spb_strings_Split g_strings_Split), (40, spb_strconv_Atoi g_strconv_Atoi), (41, spb_addr_Parse g_addr_Parse)]
def us_tell_read : List (Nat × Spec S) := [(36, sp_strings_Split), (40, sp_strconv_Atoi), (41, sp_addr_Parse)]
noncomputable def Cb_tell_read (g_strings_Split : (List UInt8) → (List UInt8) → Option ((List (List UInt8)))) (g_strconv_Atoi : (List UInt8) → Option (Int × Bool)) (g_addr_Parse : (List UInt8) → Option (Int × Int)) : Ctx S := { P := Tryd.prog, E := E, ty := tyL tab, G := glL gtab, spec := spL (usb_tell_read g_strings_Split g_strconv_Atoi g_addr_Parse), inl := inL [37, 38, 39, 59, 70], flat := true, wf := inL [38, 39], wb := inL [1] }
noncomputable def C_tell_read : Ctx S := Cb_tell_read strings_Split strconv_Atoi addr_Parse
theorem w1_tell_read (b0 : Ob S) (l : List (List UInt8)) (r : Mem S) : (clD C_tell_read.nw 3 38 [.ptr 1 0] (b0 :: .box [.cell (.slice .str) l] false :: r)).opt = some (V.cell Ty.str (wHead l), b0 :: .box [.cell (.slice .str) (List.tail l)] false :: r) := (show (clD C_tell_read.nw 3 38 [.ptr 1 0] (b0 :: .box [.cell (.slice .str) l] false :: r)).opt = (bif ((List.length l : Int) == 0) then some (V.cell Ty.str ([] : List UInt8), b0 :: .box [.cell (.slice .str) l] false :: r) else ((geti l 0).bind fun x1 => (bif (okBounds (l.length : Int) 1 (l.length : Int) none) then some (V.cell Ty.str x1, b0 :: .box [.cell (.slice .str) ((l.take (Int.toNat (l.length : Int))).drop (Int.toNat 1))] false :: r) else none))) by kernel_rfl).trans (word1_tree l fun x t => some (V.cell Ty.str x, b0 :: .box [.cell (.slice .str) t] false :: r))
theorem w2_tell_read (b0 : Ob S) (l : List (List UInt8)) (z : Bool) (r : Mem S) : (clD C_tell_read.nw 3 39 [.ptr 2 0] (b0 :: .box [.cell (.slice .str) l] false :: .box [.clo 38 [] [.ptr 1 0]] z :: r)).opt = (strconv_Atoi (wHead l)).bind fun y => some (V.cell i64 y.1, b0 :: .box [.cell (.slice .str) (List.tail l)] false :: .box [.clo 38 [] [.ptr 1 0]] z :: r) := (show (clD C_tell_read.nw 3 39 [.ptr 2 0] (b0 :: .box [.cell (.slice .str) l] false :: .box [.clo 38 [] [.ptr 1 0]] z :: r)).opt = (bif ((List.length l : Int) == 0) then (strconv_Atoi ([] : List UInt8)).bind fun y => some (V.cell i64 y.1, b0 :: .box [.cell (.slice .str) l] false :: .box [.clo 38 [] [.ptr 1 0]] z :: r) else ((geti l 0).bind fun x1 => (bif (okBounds (l.length : Int) 1 (l.length : Int) none) then (strconv_Atoi x1).bind fun y => some (V.cell i64 y.1, b0 :: .box [.cell (.slice .str) ((l.take (Int.toNat (l.length : Int))).drop (Int.toNat 1))] false :: .box [.clo 38 [] [.ptr 1 0]] z :: r) else none))) by kernel_rfl).trans (word1_tree l fun x t => (strconv_Atoi x).bind fun y => some (V.cell i64 y.1, b0 :: .box [.cell (.slice .str) t] false :: .box [.clo 38 [] [.ptr 1 0]] z :: r))
def hd_tell_read : List ((Nat × Nat) × List Hs) := [((2, 9), [.promoB 3 8 37 u32, .canon 5 [0, 1, 2, 3, 4] [2, 3, 4, 5, 6], .plainB 0 0 i64, .plainB 0 1 i64, .plainB 0 2 i64, .plainB 0 3 i64, .plainB 0 4 i64, .plainB 0 5 i64, .plainB 0 6 u32, .plainB 0 7 Ty.bool, .plainB 1 0 (Ty.slice Ty.str), .plainB 3 0 i64, .plainB 3 1 i64, .plainB 3 2 i64, .plainB 3 3 i64, .plainB 3 4 i64, .plainB 3 5 i64, .plainB 3 6 u32, .plainB 3 7 Ty.bool]), ((2, 13), [.promoB 3 9 25 i64, .canon 6 [0, 1, 2, 3, 4, 5] [2, 3, 5, 6], .plainB 0 0 i64, .plainB 0 1 i64, .plainB 0 2 i64, .plainB 0 3 i64, .plainB 0 4 i64, .plainB 0 5 i64, .plainB 0 6 u32, .plainB 0 7 Ty.bool, .plainB 1 0 (Ty.slice Ty.str), .plainB 3 0 i64, .plainB 3 1 i64, .plainB 3 2 i64, .plainB 3 3 i64, .plainB 3 4 i64, .plainB 3 5 i64, .plainB 3 6 u32, .plainB 3 7 Ty.bool])]
def h0_tell_read (m0_0 : Int) (m0_1 : Int) (m0_2 : Int) (m0_3 : Int) (m0_4 : Int) (m0_5 : Int) (m0_6 : Int) (m0_7 : Bool) (m1_0 : (List (List UInt8))) (m3_0 : Int) (m3_1 : Int) (m3_2 : Int) (m3_3 : Int) (m3_4 : Int) (m3_5 : Int) (m3_6 : Int) (m3_7 : Bool) (m4 : (List Int)) : St S := { tmps := [.undef, .undef, .ptr 0 0, .ptr 1 0, .ptr 2 0, .clo 39 [] [.ptr 2 0], .ptr 3 0, .undef, .undef, .undef, .undef, .undef, .undef, .undef, .undef, .undef, .undef, .undef, .undef, .undef, .undef, .undef, .undef, .undef, .undef, .undef, .undef, .undef, .undef, .undef, .undef, .undef, .undef, .undef, .undef, .undef, .undef, .undef, .undef, .undef, .undef, .undef, .undef, .undef, .undef, .undef, .undef, .undef, .undef, .undef, .undef, .undef, .undef, .undef, .undef, .undef, .undef, .undef, .undef, .undef, .undef, .undef, .undef, .undef, .undef, .undef, .undef, .undef, .undef, .undef, .undef, .undef, .undef, .undef, .undef, .undef, .undef, .undef, .undef, .undef, .undef, .undef], mem := [.box [.cell i64 m0_0, .cell i64 m0_1, .cell i64 m0_2, .cell i64 m0_3, .cell i64 m0_4, .cell i64 m0_5, .cell u32 m0_6, .cell Ty.bool m0_7, .nilS, .nilS] false, .box [.cell (Ty.slice Ty.str) m1_0] false, .box [.clo 38 [] [.ptr 1 0]] false, .box [.cell i64 m3_0, .cell i64 m3_1, .cell i64 m3_2, .cell i64 m3_3, .cell i64 m3_4, .cell i64 m3_5, .cell u32 m3_6, .cell Ty.bool m3_7, .own 4 0, .nilS] false, .arr 37 u32 m4 0 false] }
def h1_tell_read (m0_0 : Int) (m0_1 : Int) (m0_2 : Int) (m0_3 : Int) (m0_4 : Int) (m0_5 : Int) (m0_6 : Int) (m0_7 : Bool) (m1_0 : (List (List UInt8))) (m3_0 : Int) (m3_1 : Int) (m3_2 : Int) (m3_3 : Int) (m3_4 : Int) (m3_5 : Int) (m3_6 : Int) (m3_7 : Bool) (m4 : (List Int)) (m5 : (List Int)) : St S := { tmps := [.undef, .undef, .ptr 0 0, .ptr 1 0, .undef, .clo 39 [] [.ptr 2 0], .ptr 3 0, .undef, .undef, .undef, .undef, .undef, .undef, .undef, .undef, .undef, .undef, .undef, .undef, .undef, .undef, .undef, .undef, .undef, .undef, .undef, .undef, .undef, .undef, .undef, .undef, .undef, .undef, .undef, .undef, .undef, .undef, .undef, .undef, .undef, .undef, .undef, .undef, .undef, .undef, .undef, .undef, .undef, .undef, .undef, .undef, .undef, .undef, .undef, .undef, .undef, .undef, .undef, .undef, .undef, .undef, .undef, .undef, .undef, .undef, .undef, .undef, .undef, .undef, .undef, .undef, .undef, .undef, .undef, .undef, .undef, .undef, .undef, .undef, .undef, .undef, .undef], mem := [.box [.cell i64 m0_0, .cell i64 m0_1, .cell i64 m0_2, .cell i64 m0_3, .cell i64 m0_4, .cell i64 m0_5, .cell u32 m0_6, .cell Ty.bool m0_7, .nilS, .nilS] false, .box [.cell (Ty.slice Ty.str) m1_0] false, .box [.clo 38 [] [.ptr 1 0]] false, .box [.cell i64 m3_0, .cell i64 m3_1, .cell i64 m3_2, .cell i64 m3_3, .cell i64 m3_4, .cell i64 m3_5, .cell u32 m3_6, .cell Ty.bool m3_7, .own 4 0, .own 5 0] false, .arr 37 u32 m4 0 false, .arr 25 i64 m5 0 false] }
theorem rdb0_tell_read (g_strings_Split : (List UInt8) → (List UInt8) → Option ((List (List UInt8)))) (g_strconv_Atoi : (List UInt8) → Option (Int × Bool)) (g_addr_Parse : (List UInt8) → Option (Int × Int)) (L : Lp S (Event)) (m0_0 : Int) (m0_1 : Int) (m0_2 : Int) (m0_3 : Int) (m0_4 : Int) (m0_5 : Int) (m0_6 : Int) (m0_7 : Bool) (m1_0 : (List (List UInt8))) (m3_0 : Int) (m3_1 : Int) (m3_2 : Int) (m3_3 : Int) (m3_4 : Int) (m3_5 : Int) (m3_6 : Int) (m3_7 : Bool) (m4 : (List Int)) : (roundWF (Cb_tell_read g_strings_Split g_strconv_Atoi g_addr_Parse) (wordCl 38 39 g_strconv_Atoi (clD ((Cb_tell_read g_strings_Split g_strconv_Atoi g_addr_Parse)).nw 3)) (hdOf (Cb_tell_read g_strings_Split g_strconv_Atoi g_addr_Parse) hd_tell_read) 23 0 [(Ty.st 6)] (res1 (Ty.st 6)) L (h0_tell_read m0_0 m0_1 m0_2 m0_3 m0_4 m0_5 m0_6 m0_7 m1_0 m3_0 m3_1 m3_2 m3_3 m3_4 m3_5 m3_6 m3_7 m4)).opt = tell_read_s0b g_strings_Split g_strconv_Atoi g_addr_Parse (fun m0_0 m0_1 m0_2 m0_3 m0_4 m0_5 m0_6 m0_7 m1_0 m3_0 m3_1 m3_2 m3_3 m3_4 m3_5 m3_6 m3_7 m4 => (L (todoOf (Cb_tell_read g_strings_Split g_strconv_Atoi g_addr_Parse) 23 0) (h0_tell_read m0_0 m0_1 m0_2 m0_3 m0_4 m0_5 m0_6 m0_7 m1_0 m3_0 m3_1 m3_2 m3_3 m3_4 m3_5 m3_6 m3_7 m4)).opt) (fun m0_0 m0_1 m0_2 m0_3 m0_4 m0_5 m0_6 m0_7 m1_0 m3_0 m3_1 m3_2 m3_3 m3_4 m3_5 m3_6 m3_7 m4 m5 => (L (todoOf (Cb_tell_read g_strings_Split g_strconv_Atoi g_addr_Parse) 23 1) (h1_tell_read m0_0 m0_1 m0_2 m0_3 m0_4 m0_5 m0_6 m0_7 m1_0 m3_0 m3_1 m3_2 m3_3 m3_4 m3_5 m3_6 m3_7 m4 m5)).opt) m0_0 m0_1 m0_2 m0_3 m0_4 m0_5 m0_6 m0_7 m1_0 m3_0 m3_1 m3_2 m3_3 m3_4 m3_5 m3_6 m3_7 m4 := by kernel_rfl
theorem rd0_tell_read (L : Lp S (Event)) (m0_0 : Int) (m0_1 : Int) (m0_2 : Int) (m0_3 : Int) (m0_4 : Int) (m0_5 : Int) (m0_6 : Int) (m0_7 : Bool) (m1_0 : (List (List UInt8))) (m3_0 : Int) (m3_1 : Int) (m3_2 : Int) (m3_3 : Int) (m3_4 : Int) (m3_5 : Int) (m3_6 : Int) (m3_7 : Bool) (m4 : (List Int)) : (roundW C_tell_read (wordCl 38 39 strconv_Atoi (clD C_tell_read.nw 3)) (hdOf C_tell_read hd_tell_read) 23 0 [(Ty.st 6)] (res1 (Ty.st 6)) L (h0_tell_read m0_0 m0_1 m0_2 m0_3 m0_4 m0_5 m0_6 m0_7 m1_0 m3_0 m3_1 m3_2 m3_3 m3_4 m3_5 m3_6 m3_7 m4)).opt = tell_read_s0 (fun m0_0 m0_1 m0_2 m0_3 m0_4 m0_5 m0_6 m0_7 m1_0 m3_0 m3_1 m3_2 m3_3 m3_4 m3_5 m3_6 m3_7 m4 => (L (todoOf C_tell_read 23 0) (h0_tell_read m0_0 m0_1 m0_2 m0_3 m0_4 m0_5 m0_6 m0_7 m1_0 m3_0 m3_1 m3_2 m3_3 m3_4 m3_5 m3_6 m3_7 m4)).opt) (fun m0_0 m0_1 m0_2 m0_3 m0_4 m0_5 m0_6 m0_7 m1_0 m3_0 m3_1 m3_2 m3_3 m3_4 m3_5 m3_6 m3_7 m4 m5 => (L (todoOf C_tell_read 23 1) (h1_tell_read m0_0 m0_1 m0_2 m0_3 m0_4 m0_5 m0_6 m0_7 m1_0 m3_0 m3_1 m3_2 m3_3 m3_4 m3_5 m3_6 m3_7 m4 m5)).opt) m0_0 m0_1 m0_2 m0_3 m0_4 m0_5 m0_6 m0_7 m1_0 m3_0 m3_1 m3_2 m3_3 m3_4 m3_5 m3_6 m3_7 m4 := (congrArg D.opt (roundWF_cl _ _ _ _ _ _ L _)).trans (rdb0_tell_read strings_Split strconv_Atoi addr_Parse L m0_0 m0_1 m0_2 m0_3 m0_4 m0_5 m0_6 m0_7 m1_0 m3_0 m3_1 m3_2 m3_3 m3_4 m3_5 m3_6 m3_7 m4)
theorem rdb1_tell_read (g_strings_Split : (List UInt8) → (List UInt8) → Option ((List (List UInt8)))) (g_strconv_Atoi : (List UInt8) → Option (Int × Bool)) (g_addr_Parse : (List UInt8) → Option (Int × Int)) (L : Lp S (Event)) (m0_0 : Int) (m0_1 : Int) (m0_2 : Int) (m0_3 : Int) (m0_4 : Int) (m0_5 : Int) (m0_6 : Int) (m0_7 : Bool) (m1_0 : (List (List UInt8))) (m3_0 : Int) (m3_1 : Int) (m3_2 : Int) (m3_3 : Int) (m3_4 : Int) (m3_5 : Int) (m3_6 : Int) (m3_7 : Bool) (m4 : (List Int)) (m5 : (List Int)) : (roundWF (Cb_tell_read g_strings_Split g_strconv_Atoi g_addr_Parse) (wordCl 38 39 g_strconv_Atoi (clD ((Cb_tell_read g_strings_Split g_strconv_Atoi g_addr_Parse)).nw 3)) (hdOf (Cb_tell_read g_strings_Split g_strconv_Atoi g_addr_Parse) hd_tell_read) 23 1 [(Ty.st 6)] (res1 (Ty.st 6)) L (h1_tell_read m0_0 m0_1 m0_2 m0_3 m0_4 m0_5 m0_6 m0_7 m1_0 m3_0 m3_1 m3_2 m3_3 m3_4 m3_5 m3_6 m3_7 m4 m5)).opt = tell_read_s1b g_strings_Split g_strconv_Atoi g_addr_Parse (fun m0_0 m0_1 m0_2 m0_3 m0_4 m0_5 m0_6 m0_7 m1_0 m3_0 m3_1 m3_2 m3_3 m3_4 m3_5 m3_6 m3_7 m4 => (L (todoOf (Cb_tell_read g_strings_Split g_strconv_Atoi g_addr_Parse) 23 0) (h0_tell_read m0_0 m0_1 m0_2 m0_3 m0_4 m0_5 m0_6 m0_7 m1_0 m3_0 m3_1 m3_2 m3_3 m3_4 m3_5 m3_6 m3_7 m4)).opt) (fun m0_0 m0_1 m0_2 m0_3 m0_4 m0_5 m0_6 m0_7 m1_0 m3_0 m3_1 m3_2 m3_3 m3_4 m3_5 m3_6 m3_7 m4 m5 => (L (todoOf (Cb_tell_read g_strings_Split g_strconv_Atoi g_addr_Parse) 23 1) (h1_tell_read m0_0 m0_1 m0_2 m0_3 m0_4 m0_5 m0_6 m0_7 m1_0 m3_0 m3_1 m3_2 m3_3 m3_4 m3_5 m3_6 m3_7 m4 m5)).opt) m0_0 m0_1 m0_2 m0_3 m0_4 m0_5 m0_6 m0_7 m1_0 m3_0 m3_1 m3_2 m3_3 m3_4 m3_5 m3_6 m3_7 m4 m5 := by kernel_rfl
theorem rd1_tell_read (L : Lp S (Event)) (m0_0 : Int) (m0_1 : Int) (m0_2 : Int) (m0_3 : Int) (m0_4 : Int) (m0_5 : Int) (m0_6 : Int) (m0_7 : Bool) (m1_0 : (List (List UInt8))) (m3_0 : Int) (m3_1 : Int) (m3_2 : Int) (m3_3 : Int) (m3_4 : Int) (m3_5 : Int) (m3_6 : Int) (m3_7 : Bool) (m4 : (List Int)) (m5 : (List Int)) : (roundW C_tell_read (wordCl 38 39 strconv_Atoi (clD C_tell_read.nw 3)) (hdOf C_tell_read hd_tell_read) 23 1 [(Ty.st 6)] (res1 (Ty.st 6)) L (h1_tell_read m0_0 m0_1 m0_2 m0_3 m0_4 m0_5 m0_6 m0_7 m1_0 m3_0 m3_1 m3_2 m3_3 m3_4 m3_5 m3_6 m3_7 m4 m5)).opt = tell_read_s1 (fun m0_0 m0_1 m0_2 m0_3 m0_4 m0_5 m0_6 m0_7 m1_0 m3_0 m3_1 m3_2 m3_3 m3_4 m3_5 m3_6 m3_7 m4 => (L (todoOf C_tell_read 23 0) (h0_tell_read m0_0 m0_1 m0_2 m0_3 m0_4 m0_5 m0_6 m0_7 m1_0 m3_0 m3_1 m3_2 m3_3 m3_4 m3_5 m3_6 m3_7 m4)).opt) (fun m0_0 m0_1 m0_2 m0_3 m0_4 m0_5 m0_6 m0_7 m1_0 m3_0 m3_1 m3_2 m3_3 m3_4 m3_5 m3_6 m3_7 m4 m5 => (L (todoOf C_tell_read 23 1) (h1_tell_read m0_0 m0_1 m0_2 m0_3 m0_4 m0_5 m0_6 m0_7 m1_0 m3_0 m3_1 m3_2 m3_3 m3_4 m3_5 m3_6 m3_7 m4 m5)).opt) m0_0 m0_1 m0_2 m0_3 m0_4 m0_5 m0_6 m0_7 m1_0 m3_0 m3_1 m3_2 m3_3 m3_4 m3_5 m3_6 m3_7 m4 m5 := (congrArg D.opt (roundWF_cl _ _ _ _ _ _ L _)).trans (rdb1_tell_read strings_Split strconv_Atoi addr_Parse L m0_0 m0_1 m0_2 m0_3 m0_4 m0_5 m0_6 m0_7 m1_0 m3_0 m3_1 m3_2 m3_3 m3_4 m3_5 m3_6 m3_7 m4 m5)
theorem enb_tell_read (g_strings_Split : (List UInt8) → (List UInt8) → Option ((List (List UInt8)))) (g_strconv_Atoi : (List UInt8) → Option (Int × Bool)) (g_addr_Parse : (List UInt8) → Option (Int × Int)) (L : Lp S (Event)) (a0 : (List UInt8)) : (runWF (Cb_tell_read g_strings_Split g_strconv_Atoi g_addr_Parse) (wordCl 38 39 g_strconv_Atoi (clD ((Cb_tell_read g_strings_Split g_strconv_Atoi g_addr_Parse)).nw 3)) (fun _ => canonL (hdOf (Cb_tell_read g_strings_Split g_strconv_Atoi g_addr_Parse) hd_tell_read) L) 23 [(Ty.st 6)] (res1 (Ty.st 6)) [encV E Ty.str a0]).opt = tell_read_eb g_strings_Split g_strconv_Atoi g_addr_Parse (fun m0_0 m0_1 m0_2 m0_3 m0_4 m0_5 m0_6 m0_7 m1_0 m3_0 m3_1 m3_2 m3_3 m3_4 m3_5 m3_6 m3_7 m4 => (L (todoOf (Cb_tell_read g_strings_Split g_strconv_Atoi g_addr_Parse) 23 0) (h0_tell_read m0_0 m0_1 m0_2 m0_3 m0_4 m0_5 m0_6 m0_7 m1_0 m3_0 m3_1 m3_2 m3_3 m3_4 m3_5 m3_6 m3_7 m4)).opt) (fun m0_0 m0_1 m0_2 m0_3 m0_4 m0_5 m0_6 m0_7 m1_0 m3_0 m3_1 m3_2 m3_3 m3_4 m3_5 m3_6 m3_7 m4 m5 => (L (todoOf (Cb_tell_read g_strings_Split g_strconv_Atoi g_addr_Parse) 23 1) (h1_tell_read m0_0 m0_1 m0_2 m0_3 m0_4 m0_5 m0_6 m0_7 m1_0 m3_0 m3_1 m3_2 m3_3 m3_4 m3_5 m3_6 m3_7 m4 m5)).opt) a0 := by kernel_rfl
theorem en_tell_read (L : Lp S (Event)) (a0 : (List UInt8)) : (runW C_tell_read (wordCl 38 39 strconv_Atoi (clD C_tell_read.nw 3)) (fun _ => canonL (hdOf C_tell_read hd_tell_read) L) 23 [(Ty.st 6)] (res1 (Ty.st 6)) [encV E Ty.str a0]).opt = tell_read_e (fun m0_0 m0_1 m0_2 m0_3 m0_4 m0_5 m0_6 m0_7 m1_0 m3_0 m3_1 m3_2 m3_3 m3_4 m3_5 m3_6 m3_7 m4 => (L (todoOf C_tell_read 23 0) (h0_tell_read m0_0 m0_1 m0_2 m0_3 m0_4 m0_5 m0_6 m0_7 m1_0 m3_0 m3_1 m3_2 m3_3 m3_4 m3_5 m3_6 m3_7 m4)).opt) (fun m0_0 m0_1 m0_2 m0_3 m0_4 m0_5 m0_6 m0_7 m1_0 m3_0 m3_1 m3_2 m3_3 m3_4 m3_5 m3_6 m3_7 m4 m5 => (L (todoOf C_tell_read 23 1) (h1_tell_read m0_0 m0_1 m0_2 m0_3 m0_4 m0_5 m0_6 m0_7 m1_0 m3_0 m3_1 m3_2 m3_3 m3_4 m3_5 m3_6 m3_7 m4 m5)).opt) a0 := (congrArg D.opt (runWF_cl _ _ _ _ _ _)).trans (enb_tell_read strings_Split strconv_Atoi addr_Parse L a0)
theorem fx_tell_read : ∀ n, (∀ (m0_0 : Int) (m0_1 : Int) (m0_2 : Int) (m0_3 : Int) (m0_4 : Int) (m0_5 : Int) (m0_6 : Int) (m0_7 : Bool) (m1_0 : (List (List UInt8))) (m3_0 : Int) (m3_1 : Int) (m3_2 : Int) (m3_3 : Int) (m3_4 : Int) (m3_5 : Int) (m3_6 : Int) (m3_7 : Bool) (m4 : (List Int)), (Lfix C_tell_read (wordCl 38 39 strconv_Atoi (clD C_tell_read.nw 3)) (hdOf C_tell_read hd_tell_read) (finW C_tell_read 23 [(Ty.st 6)] (res1 (Ty.st 6))) n (todoOf C_tell_read 23 0) (h0_tell_read m0_0 m0_1 m0_2 m0_3 m0_4 m0_5 m0_6 m0_7 m1_0 m3_0 m3_1 m3_2 m3_3 m3_4 m3_5 m3_6 m3_7 m4)).opt = tell_read_l0 n m0_0 m0_1 m0_2 m0_3 m0_4 m0_5 m0_6 m0_7 m1_0 m3_0 m3_1 m3_2 m3_3 m3_4 m3_5 m3_6 m3_7 m4) ∧ (∀ (m0_0 : Int) (m0_1 : Int) (m0_2 : Int) (m0_3 : Int) (m0_4 : Int) (m0_5 : Int) (m0_6 : Int) (m0_7 : Bool) (m1_0 : (List (List UInt8))) (m3_0 : Int) (m3_1 : Int) (m3_2 : Int) (m3_3 : Int) (m3_4 : Int) (m3_5 : Int) (m3_6 : Int) (m3_7 : Bool) (m4 : (List Int)) (m5 : (List Int)), (Lfix C_tell_read (wordCl 38 39 strconv_Atoi (clD C_tell_read.nw 3)) (hdOf C_tell_read hd_tell_read) (finW C_tell_read 23 [(Ty.st 6)] (res1 (Ty.st 6))) n (todoOf C_tell_read 23 1) (h1_tell_read m0_0 m0_1 m0_2 m0_3 m0_4 m0_5 m0_6 m0_7 m1_0 m3_0 m3_1 m3_2 m3_3 m3_4 m3_5 m3_6 m3_7 m4 m5)).opt = tell_read_l1 n m0_0 m0_1 m0_2 m0_3 m0_4 m0_5 m0_6 m0_7 m1_0 m3_0 m3_1 m3_2 m3_3 m3_4 m3_5 m3_6 m3_7 m4 m5)
  | 0 => ⟨fun _ _ _ _ _ _ _ _ _ _ _ _ _ _ _ _ _ _ => rfl, fun _ _ _ _ _ _ _ _ _ _ _ _ _ _ _ _ _ _ _ => rfl⟩
  | n + 1 => by
    have ih := fx_tell_read n
    have e0 : (fun m0_0 m0_1 m0_2 m0_3 m0_4 m0_5 m0_6 m0_7 m1_0 m3_0 m3_1 m3_2 m3_3 m3_4 m3_5 m3_6 m3_7 m4 => (Lfix C_tell_read (wordCl 38 39 strconv_Atoi (clD C_tell_read.nw 3)) (hdOf C_tell_read hd_tell_read) (finW C_tell_read 23 [(Ty.st 6)] (res1 (Ty.st 6))) n (todoOf C_tell_read 23 0) (h0_tell_read m0_0 m0_1 m0_2 m0_3 m0_4 m0_5 m0_6 m0_7 m1_0 m3_0 m3_1 m3_2 m3_3 m3_4 m3_5 m3_6 m3_7 m4)).opt) = tell_read_l0 n := funext fun m0_0 => funext fun m0_1 => funext fun m0_2 => funext fun m0_3 => funext fun m0_4 => funext fun m0_5 => funext fun m0_6 => funext fun m0_7 => funext fun m1_0 => funext fun m3_0 => funext fun m3_1 => funext fun m3_2 => funext fun m3_3 => funext fun m3_4 => funext fun m3_5 => funext fun m3_6 => funext fun m3_7 => funext fun m4 => ih.1 m0_0 m0_1 m0_2 m0_3 m0_4 m0_5 m0_6 m0_7 m1_0 m3_0 m3_1 m3_2 m3_3 m3_4 m3_5 m3_6 m3_7 m4
    have e1 : (fun m0_0 m0_1 m0_2 m0_3 m0_4 m0_5 m0_6 m0_7 m1_0 m3_0 m3_1 m3_2 m3_3 m3_4 m3_5 m3_6 m3_7 m4 m5 => (Lfix C_tell_read (wordCl 38 39 strconv_Atoi (clD C_tell_read.nw 3)) (hdOf C_tell_read hd_tell_read) (finW C_tell_read 23 [(Ty.st 6)] (res1 (Ty.st 6))) n (todoOf C_tell_read 23 1) (h1_tell_read m0_0 m0_1 m0_2 m0_3 m0_4 m0_5 m0_6 m0_7 m1_0 m3_0 m3_1 m3_2 m3_3 m3_4 m3_5 m3_6 m3_7 m4 m5)).opt) = tell_read_l1 n := funext fun m0_0 => funext fun m0_1 => funext fun m0_2 => funext fun m0_3 => funext fun m0_4 => funext fun m0_5 => funext fun m0_6 => funext fun m0_7 => funext fun m1_0 => funext fun m3_0 => funext fun m3_1 => funext fun m3_2 => funext fun m3_3 => funext fun m3_4 => funext fun m3_5 => funext fun m3_6 => funext fun m3_7 => funext fun m4 => funext fun m5 => ih.2 m0_0 m0_1 m0_2 m0_3 m0_4 m0_5 m0_6 m0_7 m1_0 m3_0 m3_1 m3_2 m3_3 m3_4 m3_5 m3_6 m3_7 m4 m5
    exact ⟨fun m0_0 m0_1 m0_2 m0_3 m0_4 m0_5 m0_6 m0_7 m1_0 m3_0 m3_1 m3_2 m3_3 m3_4 m3_5 m3_6 m3_7 m4 => (congrArg D.opt (Lfix_round C_tell_read (wordCl 38 39 strconv_Atoi (clD C_tell_read.nw 3)) (hdOf C_tell_read hd_tell_read) 23 0 [(Ty.st 6)] (res1 (Ty.st 6)) n _)).trans ((rd0_tell_read (Lfix C_tell_read (wordCl 38 39 strconv_Atoi (clD C_tell_read.nw 3)) (hdOf C_tell_read hd_tell_read) (finW C_tell_read 23 [(Ty.st 6)] (res1 (Ty.st 6))) n) m0_0 m0_1 m0_2 m0_3 m0_4 m0_5 m0_6 m0_7 m1_0 m3_0 m3_1 m3_2 m3_3 m3_4 m3_5 m3_6 m3_7 m4).trans ((congrArg (fun x => tell_read_s0  x (fun m0_0 m0_1 m0_2 m0_3 m0_4 m0_5 m0_6 m0_7 m1_0 m3_0 m3_1 m3_2 m3_3 m3_4 m3_5 m3_6 m3_7 m4 m5 => (Lfix C_tell_read (wordCl 38 39 strconv_Atoi (clD C_tell_read.nw 3)) (hdOf C_tell_read hd_tell_read) (finW C_tell_read 23 [(Ty.st 6)] (res1 (Ty.st 6))) n (todoOf C_tell_read 23 1) (h1_tell_read m0_0 m0_1 m0_2 m0_3 m0_4 m0_5 m0_6 m0_7 m1_0 m3_0 m3_1 m3_2 m3_3 m3_4 m3_5 m3_6 m3_7 m4 m5)).opt) m0_0 m0_1 m0_2 m0_3 m0_4 m0_5 m0_6 m0_7 m1_0 m3_0 m3_1 m3_2 m3_3 m3_4 m3_5 m3_6 m3_7 m4) e0).trans (congrArg (fun x => tell_read_s0 (tell_read_l0 n) x  m0_0 m0_1 m0_2 m0_3 m0_4 m0_5 m0_6 m0_7 m1_0 m3_0 m3_1 m3_2 m3_3 m3_4 m3_5 m3_6 m3_7 m4) e1))), fun m0_0 m0_1 m0_2 m0_3 m0_4 m0_5 m0_6 m0_7 m1_0 m3_0 m3_1 m3_2 m3_3 m3_4 m3_5 m3_6 m3_7 m4 m5 => (congrArg D.opt (Lfix_round C_tell_read (wordCl 38 39 strconv_Atoi (clD C_tell_read.nw 3)) (hdOf C_tell_read hd_tell_read) 23 1 [(Ty.st 6)] (res1 (Ty.st 6)) n _)).trans ((rd1_tell_read (Lfix C_tell_read (wordCl 38 39 strconv_Atoi (clD C_tell_read.nw 3)) (hdOf C_tell_read hd_tell_read) (finW C_tell_read 23 [(Ty.st 6)] (res1 (Ty.st 6))) n) m0_0 m0_1 m0_2 m0_3 m0_4 m0_5 m0_6 m0_7 m1_0 m3_0 m3_1 m3_2 m3_3 m3_4 m3_5 m3_6 m3_7 m4 m5).trans ((congrArg (fun x => tell_read_s1  x (fun m0_0 m0_1 m0_2 m0_3 m0_4 m0_5 m0_6 m0_7 m1_0 m3_0 m3_1 m3_2 m3_3 m3_4 m3_5 m3_6 m3_7 m4 m5 => (Lfix C_tell_read (wordCl 38 39 strconv_Atoi (clD C_tell_read.nw 3)) (hdOf C_tell_read hd_tell_read) (finW C_tell_read 23 [(Ty.st 6)] (res1 (Ty.st 6))) n (todoOf C_tell_read 23 1) (h1_tell_read m0_0 m0_1 m0_2 m0_3 m0_4 m0_5 m0_6 m0_7 m1_0 m3_0 m3_1 m3_2 m3_3 m3_4 m3_5 m3_6 m3_7 m4 m5)).opt) m0_0 m0_1 m0_2 m0_3 m0_4 m0_5 m0_6 m0_7 m1_0 m3_0 m3_1 m3_2 m3_3 m3_4 m3_5 m3_6 m3_7 m4 m5) e0).trans (congrArg (fun x => tell_read_s1 (tell_read_l0 n) x  m0_0 m0_1 m0_2 m0_3 m0_4 m0_5 m0_6 m0_7 m1_0 m3_0 m3_1 m3_2 m3_3 m3_4 m3_5 m3_6 m3_7 m4 m5) e1)))⟩
theorem ev_tell_read (n : Nat) (a0 : (List UInt8)) : (runF C_tell_read (wordCl 38 39 strconv_Atoi (clD C_tell_read.nw 3)) (hdOf C_tell_read hd_tell_read) 23 [(Ty.st 6)] (res1 (Ty.st 6)) n [encV E Ty.str a0]).opt = tell_read_n n a0 := by
  have ih := fx_tell_read n
  have e0 : (fun m0_0 m0_1 m0_2 m0_3 m0_4 m0_5 m0_6 m0_7 m1_0 m3_0 m3_1 m3_2 m3_3 m3_4 m3_5 m3_6 m3_7 m4 => (Lfix C_tell_read (wordCl 38 39 strconv_Atoi (clD C_tell_read.nw 3)) (hdOf C_tell_read hd_tell_read) (finW C_tell_read 23 [(Ty.st 6)] (res1 (Ty.st 6))) n (todoOf C_tell_read 23 0) (h0_tell_read m0_0 m0_1 m0_2 m0_3 m0_4 m0_5 m0_6 m0_7 m1_0 m3_0 m3_1 m3_2 m3_3 m3_4 m3_5 m3_6 m3_7 m4)).opt) = tell_read_l0 n := funext fun m0_0 => funext fun m0_1 => funext fun m0_2 => funext fun m0_3 => funext fun m0_4 => funext fun m0_5 => funext fun m0_6 => funext fun m0_7 => funext fun m1_0 => funext fun m3_0 => funext fun m3_1 => funext fun m3_2 => funext fun m3_3 => funext fun m3_4 => funext fun m3_5 => funext fun m3_6 => funext fun m3_7 => funext fun m4 => ih.1 m0_0 m0_1 m0_2 m0_3 m0_4 m0_5 m0_6 m0_7 m1_0 m3_0 m3_1 m3_2 m3_3 m3_4 m3_5 m3_6 m3_7 m4
  have e1 : (fun m0_0 m0_1 m0_2 m0_3 m0_4 m0_5 m0_6 m0_7 m1_0 m3_0 m3_1 m3_2 m3_3 m3_4 m3_5 m3_6 m3_7 m4 m5 => (Lfix C_tell_read (wordCl 38 39 strconv_Atoi (clD C_tell_read.nw 3)) (hdOf C_tell_read hd_tell_read) (finW C_tell_read 23 [(Ty.st 6)] (res1 (Ty.st 6))) n (todoOf C_tell_read 23 1) (h1_tell_read m0_0 m0_1 m0_2 m0_3 m0_4 m0_5 m0_6 m0_7 m1_0 m3_0 m3_1 m3_2 m3_3 m3_4 m3_5 m3_6 m3_7 m4 m5)).opt) = tell_read_l1 n := funext fun m0_0 => funext fun m0_1 => funext fun m0_2 => funext fun m0_3 => funext fun m0_4 => funext fun m0_5 => funext fun m0_6 => funext fun m0_7 => funext fun m1_0 => funext fun m3_0 => funext fun m3_1 => funext fun m3_2 => funext fun m3_3 => funext fun m3_4 => funext fun m3_5 => funext fun m3_6 => funext fun m3_7 => funext fun m4 => funext fun m5 => ih.2 m0_0 m0_1 m0_2 m0_3 m0_4 m0_5 m0_6 m0_7 m1_0 m3_0 m3_1 m3_2 m3_3 m3_4 m3_5 m3_6 m3_7 m4 m5
  exact (congrArg D.opt (runF_eq C_tell_read (wordCl 38 39 strconv_Atoi (clD C_tell_read.nw 3)) (hdOf C_tell_read hd_tell_read) 23 [(Ty.st 6)] (res1 (Ty.st 6)) n _)).trans ((en_tell_read (Lfix C_tell_read (wordCl 38 39 strconv_Atoi (clD C_tell_read.nw 3)) (hdOf C_tell_read hd_tell_read) (finW C_tell_read 23 [(Ty.st 6)] (res1 (Ty.st 6))) n) a0).trans ((congrArg (fun x => tell_read_e  x (fun m0_0 m0_1 m0_2 m0_3 m0_4 m0_5 m0_6 m0_7 m1_0 m3_0 m3_1 m3_2 m3_3 m3_4 m3_5 m3_6 m3_7 m4 m5 => (Lfix C_tell_read (wordCl 38 39 strconv_Atoi (clD C_tell_read.nw 3)) (hdOf C_tell_read hd_tell_read) (finW C_tell_read 23 [(Ty.st 6)] (res1 (Ty.st 6))) n (todoOf C_tell_read 23 1) (h1_tell_read m0_0 m0_1 m0_2 m0_3 m0_4 m0_5 m0_6 m0_7 m1_0 m3_0 m3_1 m3_2 m3_3 m3_4 m3_5 m3_6 m3_7 m4 m5)).opt) a0) e0).trans (congrArg (fun x => tell_read_e (tell_read_l0 n) x  a0) e1)))
theorem ok_tell_read : SpecOK C_tell_read 23 sp_tell_read := by
  have hS := specs_ok (C := C_tell_read) (l := us_tell_read) rfl ⟨ok_strings_Split.re rfl rfl rfl, ok_strconv_Atoi.re rfl rfl rfl, ok_addr_Parse.re rfl rfl rfl, trivial⟩
  refine spec_ok (C := C_tell_read) (cl := (wordCl 38 39 strconv_Atoi (clD C_tell_read.nw 3))) (hd := (hdOf C_tell_read hd_tell_read)) envOK (tyOK_of (l := tab) rfl tabT) hS (wordCl_ok (clD_ok (C := C_tell_read.nw) envOK (tyOK_of (l := tab) rfl tabT) (fun f sp h => hS f sp h) mixed (inl_ok (l := [37, 38, 39, 59, 70]) rfl (by kernel_rfl)) 3) w1_tell_read w2_tell_read rfl rfl) mixed (hdOf_ok envOK hd_tell_read) (by kernel_rfl) [(Ty.st 6)] (res1 (Ty.st 6)) (de1 (S := S) (Ty.st 6)) fun cs r h => ?_
  obtain ⟨a0, rfl, h⟩ := inv1 h
  exact ⟨big, (ev_tell_read big a0).trans ((def_tell_read a0).symm.trans h)⟩
-- strings.Index
end Go.Lv.Ld
namespace Go.Proofs
open Go.Shelf
def Tryd.lvstrings_Index_ren : Go.Shelf.Ren := ⟨fun | 143 => 57 | 219 => 67 | 217 => 81 | 225 => 82 | 224 => 83 | 267 => 84 | 266 => 95 | 314 => 96 | n => n, fun | 9 => 9 | 3 => 3 | 4 => 4 | 5 => 5 | 46 => 90 | 146 => 133 | 51 => 37 | n => n, fun | 1 => 2 | n => n⟩
theorem Tryd.lvstrings_Index : Go.Proofs.Lays.n143 Tryd.prog Tryd.lvstrings_Index_ren := {
  mixed := by kernel_rfl
  f143 := Tryd.func57.trans (congrArg some (by kernel_rfl))
  f217 := Tryd.func81.trans (congrArg some (by kernel_rfl))
  f219 := Tryd.func67.trans (congrArg some (by kernel_rfl))
  f224 := Tryd.func83.trans (congrArg some (by kernel_rfl))
  f225 := Tryd.func82.trans (congrArg some (by kernel_rfl))
  f266 := Tryd.func95.trans (congrArg some (by kernel_rfl))
  f267 := Tryd.func84.trans (congrArg some (by kernel_rfl))
  f314 := Tryd.func96.trans (congrArg some (by kernel_rfl))
  t3 := Tryd.underlying3
  a3 := Tryd.isAgg3
  z3 := Tryd.sizeOf3
  v3 := Tryd.zeroValue3
  t4 := Tryd.underlying4
  a4 := Tryd.isAgg4
  z4 := Tryd.sizeOf4
  v4 := Tryd.zeroValue4
  t5 := Tryd.underlying5
  a5 := Tryd.isAgg5
  z5 := Tryd.sizeOf5
  v5 := Tryd.zeroValue5
  t9 := Tryd.underlying9
  a9 := Tryd.isAgg9
  z9 := Tryd.sizeOf9
  v9 := Tryd.zeroValue9
  t46 := Tryd.underlying90
  a46 := Tryd.isAgg90
  z46 := Tryd.sizeOf90
  v46 := Tryd.zeroValue90
  t51 := Tryd.underlying37
  a51 := Tryd.isAgg37
  z51 := Tryd.sizeOf37
  v51 := Tryd.zeroValue37
  t146 := Tryd.underlying133
  a146 := Tryd.isAgg133
  z146 := Tryd.sizeOf133
  v146 := Tryd.zeroValue133
  g1 := by kernel_rfl }
end Go.Proofs
namespace Go.Lv.Ld
open Go Go.Lv Go.Proofs
set_option linter.all false
set_option maxRecDepth 100000
def sp_strings_Index : Spec S := { args := [Ty.str, Ty.str], R := Int, run := run2 Ty.str Ty.str strings_Index, enc := enc1 (S := S) i64 }
def spb_strings_Index (F : (List UInt8) → (List UInt8) → Option (Int)) : Spec S := { args := [Ty.str, Ty.str], R := Int, run := run2 Ty.str Ty.str F, enc := enc1 (S := S) i64 }
noncomputable def C_strings_Index : Ctx S := { P := Tryd.prog, E := E, ty := tyL tab, G := glL gtab, spec := fun _ => none, inl := fun _ => false }
theorem ok_strings_Index : SpecOK C_strings_Index 57 sp_strings_Index := ok_Index (C := C_strings_Index) (ρ := Tryd.lvstrings_Index_ren) Tryd.lvstrings_Index (lvEnters (by kernel_rfl))
-- lodger/tell.Get
def sp_tell_Get : Spec S := { args := [Ty.str], R := (List Event) × Int, run := run1 Ty.str tell_Get, enc := enc2 (S := S) (Ty.slice (Ty.st 6)) i64 }
def spb_tell_Get (F : (List UInt8) → Option ((List Event) × Int)) : Spec S := { args := [Ty.str], R := (List Event) × Int, run := run1 Ty.str F, enc := enc2 (S := S) (Ty.slice (Ty.st 6)) i64 }
-- lodger/lodgerref08.Addrs
def lodgerref08_Addrs_s0b  (k0 : (List Int) → (List Int) → Int → Option (Bool)) (s0 : (List Int)) (s1 : (List Int)) (s5 : Int) : Option (Bool) := (bif (decide (s5 < (List.length s0 : Int))) then ((geti s0 s5).bind fun x1 => ((geti s1 s5).bind fun x2 => (bif (x1 != x2) then some false else k0 s0 s1 (IntKind.wrap .i64 (s5 + 1))))) else some true)
def lodgerref08_Addrs_eb  (k0 : (List Int) → (List Int) → Int → Option (Bool)) (a0 : (List Int)) (a1 : (List Int)) : Option (Bool) := (bif ((List.length a0 : Int) != (List.length a1 : Int)) then some false else k0 a0 a1 0)
def sp_lodgerref08_Addrs : Spec S := { args := [(Ty.slice u32), (Ty.slice u32)], R := Bool, run := run2 (Ty.slice u32) (Ty.slice u32) lodgerref08_Addrs, enc := enc1 (S := S) Ty.bool }
def spb_lodgerref08_Addrs (F : (List Int) → (List Int) → Option (Bool)) : Spec S := { args := [(Ty.slice u32), (Ty.slice u32)], R := Bool, run := run2 (Ty.slice u32) (Ty.slice u32) F, enc := enc1 (S := S) Ty.bool }
def usb_lodgerref08_Addrs  : List (Nat × Spec S) := []
def us_lodgerref08_Addrs : List (Nat × Spec S) := []
noncomputable def Cb_lodgerref08_Addrs  : Ctx S := { P := Tryd.prog, E := E, ty := tyL tab, G := glL gtab, spec := spL (usb_lodgerref08_Addrs ), inl := inL [] }
noncomputable def C_lodgerref08_Addrs : Ctx S := Cb_lodgerref08_Addrs 
def hd_lodgerref08_Addrs : List ((Nat × Nat) × List Hs) := [((2, 4), [.canon 0 [] [0, 1, 5], .plain 0 (Ty.slice u32), .plain 1 (Ty.slice u32), .plain 5 i64])]
def h0_lodgerref08_Addrs (s0 : (List Int)) (s1 : (List Int)) (s5 : Int) : St S := { tmps := [.cell (Ty.slice u32) s0, .cell (Ty.slice u32) s1, .undef, .undef, .undef, .cell i64 s5, .undef, .undef, .undef, .undef, .undef, .undef, .undef, .undef, .undef, .undef, .undef, .undef, .undef, .undef, .undef, .undef, .undef, .undef, .undef, .undef], mem := [] }
theorem rdb0_lodgerref08_Addrs  (L : Lp S (Bool)) (s0 : (List Int)) (s1 : (List Int)) (s5 : Int) : (roundWF (Cb_lodgerref08_Addrs ) (clDF (Cb_lodgerref08_Addrs ) 0) (hdOf (Cb_lodgerref08_Addrs ) hd_lodgerref08_Addrs) 50 0 [Ty.bool] (res1 Ty.bool) L (h0_lodgerref08_Addrs s0 s1 s5)).opt = lodgerref08_Addrs_s0b  (fun s0 s1 s5 => (L (todoOf (Cb_lodgerref08_Addrs ) 50 0) (h0_lodgerref08_Addrs s0 s1 s5)).opt) s0 s1 s5 := by kernel_rfl
theorem rd0_lodgerref08_Addrs (L : Lp S (Bool)) (s0 : (List Int)) (s1 : (List Int)) (s5 : Int) : (roundW C_lodgerref08_Addrs (clD C_lodgerref08_Addrs 0) (hdOf C_lodgerref08_Addrs hd_lodgerref08_Addrs) 50 0 [Ty.bool] (res1 Ty.bool) L (h0_lodgerref08_Addrs s0 s1 s5)).opt = lodgerref08_Addrs_s0 (fun s0 s1 s5 => (L (todoOf C_lodgerref08_Addrs 50 0) (h0_lodgerref08_Addrs s0 s1 s5)).opt) s0 s1 s5 := (congrArg D.opt (roundWF_eq _ _ _ _ _ _ _ L _)).trans (rdb0_lodgerref08_Addrs  L s0 s1 s5)
theorem enb_lodgerref08_Addrs  (L : Lp S (Bool)) (a0 : (List Int)) (a1 : (List Int)) : (runWF (Cb_lodgerref08_Addrs ) (clDF (Cb_lodgerref08_Addrs ) 0) (fun _ => canonL (hdOf (Cb_lodgerref08_Addrs ) hd_lodgerref08_Addrs) L) 50 [Ty.bool] (res1 Ty.bool) [encV E (Ty.slice u32) a0, encV E (Ty.slice u32) a1]).opt = lodgerref08_Addrs_eb  (fun s0 s1 s5 => (L (todoOf (Cb_lodgerref08_Addrs ) 50 0) (h0_lodgerref08_Addrs s0 s1 s5)).opt) a0 a1 := by kernel_rfl
theorem en_lodgerref08_Addrs (L : Lp S (Bool)) (a0 : (List Int)) (a1 : (List Int)) : (runW C_lodgerref08_Addrs (clD C_lodgerref08_Addrs 0) (fun _ => canonL (hdOf C_lodgerref08_Addrs hd_lodgerref08_Addrs) L) 50 [Ty.bool] (res1 Ty.bool) [encV E (Ty.slice u32) a0, encV E (Ty.slice u32) a1]).opt = lodgerref08_Addrs_e (fun s0 s1 s5 => (L (todoOf C_lodgerref08_Addrs 50 0) (h0_lodgerref08_Addrs s0 s1 s5)).opt) a0 a1 := (congrArg D.opt (runWF_eq _ _ _ _ _ _ _)).trans (enb_lodgerref08_Addrs  L a0 a1)
theorem fx_lodgerref08_Addrs : ∀ n, (∀ (s0 : (List Int)) (s1 : (List Int)) (s5 : Int), (Lfix C_lodgerref08_Addrs (clD C_lodgerref08_Addrs 0) (hdOf C_lodgerref08_Addrs hd_lodgerref08_Addrs) (finW C_lodgerref08_Addrs 50 [Ty.bool] (res1 Ty.bool)) n (todoOf C_lodgerref08_Addrs 50 0) (h0_lodgerref08_Addrs s0 s1 s5)).opt = lodgerref08_Addrs_l0 n s0 s1 s5)
  | 0 => fun _ _ _ => rfl
  | n + 1 => by
    have ih := fx_lodgerref08_Addrs n
    have e0 : (fun s0 s1 s5 => (Lfix C_lodgerref08_Addrs (clD C_lodgerref08_Addrs 0) (hdOf C_lodgerref08_Addrs hd_lodgerref08_Addrs) (finW C_lodgerref08_Addrs 50 [Ty.bool] (res1 Ty.bool)) n (todoOf C_lodgerref08_Addrs 50 0) (h0_lodgerref08_Addrs s0 s1 s5)).opt) = lodgerref08_Addrs_l0 n := funext fun s0 => funext fun s1 => funext fun s5 => ih s0 s1 s5
    exact fun s0 s1 s5 => (congrArg D.opt (Lfix_round C_lodgerref08_Addrs (clD C_lodgerref08_Addrs 0) (hdOf C_lodgerref08_Addrs hd_lodgerref08_Addrs) 50 0 [Ty.bool] (res1 Ty.bool) n _)).trans ((rd0_lodgerref08_Addrs (Lfix C_lodgerref08_Addrs (clD C_lodgerref08_Addrs 0) (hdOf C_lodgerref08_Addrs hd_lodgerref08_Addrs) (finW C_lodgerref08_Addrs 50 [Ty.bool] (res1 Ty.bool)) n) s0 s1 s5).trans (congrArg (fun x => lodgerref08_Addrs_s0  x  s0 s1 s5) e0))
theorem ev_lodgerref08_Addrs (n : Nat) (a0 : (List Int)) (a1 : (List Int)) : (runF C_lodgerref08_Addrs (clD C_lodgerref08_Addrs 0) (hdOf C_lodgerref08_Addrs hd_lodgerref08_Addrs) 50 [Ty.bool] (res1 Ty.bool) n [encV E (Ty.slice u32) a0, encV E (Ty.slice u32) a1]).opt = lodgerref08_Addrs_n n a0 a1 := by
  have ih := fx_lodgerref08_Addrs n
  have e0 : (fun s0 s1 s5 => (Lfix C_lodgerref08_Addrs (clD C_lodgerref08_Addrs 0) (hdOf C_lodgerref08_Addrs hd_lodgerref08_Addrs) (finW C_lodgerref08_Addrs 50 [Ty.bool] (res1 Ty.bool)) n (todoOf C_lodgerref08_Addrs 50 0) (h0_lodgerref08_Addrs s0 s1 s5)).opt) = lodgerref08_Addrs_l0 n := funext fun s0 => funext fun s1 => funext fun s5 => ih s0 s1 s5
  exact (congrArg D.opt (runF_eq C_lodgerref08_Addrs (clD C_lodgerref08_Addrs 0) (hdOf C_lodgerref08_Addrs hd_lodgerref08_Addrs) 50 [Ty.bool] (res1 Ty.bool) n _)).trans ((en_lodgerref08_Addrs (Lfix C_lodgerref08_Addrs (clD C_lodgerref08_Addrs 0) (hdOf C_lodgerref08_Addrs hd_lodgerref08_Addrs) (finW C_lodgerref08_Addrs 50 [Ty.bool] (res1 Ty.bool)) n) a0 a1).trans (congrArg (fun x => lodgerref08_Addrs_e  x  a0 a1) e0))
theorem ok_lodgerref08_Addrs : SpecOK C_lodgerref08_Addrs 50 sp_lodgerref08_Addrs := by
  have hS := specs_ok (C := C_lodgerref08_Addrs) (l := us_lodgerref08_Addrs) rfl trivial
  refine spec_ok (C := C_lodgerref08_Addrs) (cl := (clD C_lodgerref08_Addrs 0)) (hd := (hdOf C_lodgerref08_Addrs hd_lodgerref08_Addrs)) envOK (tyOK_of (l := tab) rfl tabT) hS (clD_ok envOK (tyOK_of (l := tab) rfl tabT) hS mixed (inl_ok (l := []) rfl (by kernel_rfl)) _) mixed (hdOf_ok envOK hd_lodgerref08_Addrs) (by kernel_rfl) [Ty.bool] (res1 Ty.bool) (de1 (S := S) Ty.bool) fun cs r h => ?_
  obtain ⟨a0, a1, rfl, h⟩ := inv2 h
  exact ⟨big, (ev_lodgerref08_Addrs big a0 a1).trans ((def_lodgerref08_Addrs a0 a1).symm.trans h)⟩
-- lodger/lodgerref08.Errs
def lodgerref08_Errs_s0b  (k0 : (List Int) → (List Int) → Int → Option (Bool)) (s0 : (List Int)) (s1 : (List Int)) (s5 : Int) : Option (Bool) := (bif (decide (s5 < (List.length s0 : Int))) then ((geti s0 s5).bind fun x1 => ((geti s1 s5).bind fun x2 => (bif (x1 != x2) then some false else k0 s0 s1 (IntKind.wrap .i64 (s5 + 1))))) else some true)
def lodgerref08_Errs_eb  (k0 : (List Int) → (List Int) → Int → Option (Bool)) (a0 : (List Int)) (a1 : (List Int)) : Option (Bool) := (bif ((List.length a0 : Int) != (List.length a1 : Int)) then some false else k0 a0 a1 0)
def sp_lodgerref08_Errs : Spec S := { args := [(Ty.slice i64), (Ty.slice i64)], R := Bool, run := run2 (Ty.slice i64) (Ty.slice i64) lodgerref08_Errs, enc := enc1 (S := S) Ty.bool }
def spb_lodgerref08_Errs (F : (List Int) → (List Int) → Option (Bool)) : Spec S := { args := [(Ty.slice i64), (Ty.slice i64)], R := Bool, run := run2 (Ty.slice i64) (Ty.slice i64) F, enc := enc1 (S := S) Ty.bool }
def usb_lodgerref08_Errs  : List (Nat × Spec S) := []
def us_lodgerref08_Errs : List (Nat × Spec S) := []
noncomputable def Cb_lodgerref08_Errs  : Ctx S := { P := Tryd.prog, E := E, ty := tyL tab, G := glL gtab, spec := spL (usb_lodgerref08_Errs ), inl := inL [] }
noncomputable def C_lodgerref08_Errs : Ctx S := Cb_lodgerref08_Errs 
def hd_lodgerref08_Errs : List ((Nat × Nat) × List Hs) := [((2, 4), [.canon 0 [] [0, 1, 5], .plain 0 (Ty.slice i64), .plain 1 (Ty.slice i64), .plain 5 i64])]
def h0_lodgerref08_Errs (s0 : (List Int)) (s1 : (List Int)) (s5 : Int) : St S := { tmps := [.cell (Ty.slice i64) s0, .cell (Ty.slice i64) s1, .undef, .undef, .undef, .cell i64 s5, .undef, .undef, .undef, .undef, .undef, .undef, .undef, .undef, .undef, .undef, .undef, .undef, .undef, .undef, .undef, .undef, .undef, .undef, .undef, .undef], mem := [] }
theorem rdb0_lodgerref08_Errs  (L : Lp S (Bool)) (s0 : (List Int)) (s1 : (List Int)) (s5 : Int) : (roundWF (Cb_lodgerref08_Errs ) (clDF (Cb_lodgerref08_Errs ) 0) (hdOf (Cb_lodgerref08_Errs ) hd_lodgerref08_Errs) 51 0 [Ty.bool] (res1 Ty.bool) L (h0_lodgerref08_Errs s0 s1 s5)).opt = lodgerref08_Errs_s0b  (fun s0 s1 s5 => (L (todoOf (Cb_lodgerref08_Errs ) 51 0) (h0_lodgerref08_Errs s0 s1 s5)).opt) s0 s1 s5 := by kernel_rfl
theorem rd0_lodgerref08_Errs (L : Lp S (Bool)) (s0 : (List Int)) (s1 : (List Int)) (s5 : Int) : (roundW C_lodgerref08_Errs (clD C_lodgerref08_Errs 0) (hdOf C_lodgerref08_Errs hd_lodgerref08_Errs) 51 0 [Ty.bool] (res1 Ty.bool) L (h0_lodgerref08_Errs s0 s1 s5)).opt = lodgerref08_Errs_s0 (fun s0 s1 s5 => (L (todoOf C_lodgerref08_Errs 51 0) (h0_lodgerref08_Errs s0 s1 s5)).opt) s0 s1 s5 := (congrArg D.opt (roundWF_eq _ _ _ _ _ _ _ L _)).trans (rdb0_lodgerref08_Errs  L s0 s1 s5)
theorem enb_lodgerref08_Errs  (L : Lp S (Bool)) (a0 : (List Int)) (a1 : (List Int)) : (runWF (Cb_lodgerref08_Errs ) (clDF (Cb_lodgerref08_Errs ) 0) (fun _ => canonL (hdOf (Cb_lodgerref08_Errs ) hd_lodgerref08_Errs) L) 51 [Ty.bool] (res1 Ty.bool) [encV E (Ty.slice i64) a0, encV E (Ty.slice i64) a1]).opt = lodgerref08_Errs_eb  (fun s0 s1 s5 => (L (todoOf (Cb_lodgerref08_Errs ) 51 0) (h0_lodgerref08_Errs s0 s1 s5)).opt) a0 a1 := by kernel_rfl
theorem en_lodgerref08_Errs (L : Lp S (Bool)) (a0 : (List Int)) (a1 : (List Int)) : (runW C_lodgerref08_Errs (clD C_lodgerref08_Errs 0) (fun _ => canonL (hdOf C_lodgerref08_Errs hd_lodgerref08_Errs) L) 51 [Ty.bool] (res1 Ty.bool) [encV E (Ty.slice i64) a0, encV E (Ty.slice i64) a1]).opt = lodgerref08_Errs_e (fun s0 s1 s5 => (L (todoOf C_lodgerref08_Errs 51 0) (h0_lodgerref08_Errs s0 s1 s5)).opt) a0 a1 := (congrArg D.opt (runWF_eq _ _ _ _ _ _ _)).trans (enb_lodgerref08_Errs  L a0 a1)
theorem fx_lodgerref08_Errs : ∀ n, (∀ (s0 : (List Int)) (s1 : (List Int)) (s5 : Int), (Lfix C_lodgerref08_Errs (clD C_lodgerref08_Errs 0) (hdOf C_lodgerref08_Errs hd_lodgerref08_Errs) (finW C_lodgerref08_Errs 51 [Ty.bool] (res1 Ty.bool)) n (todoOf C_lodgerref08_Errs 51 0) (h0_lodgerref08_Errs s0 s1 s5)).opt = lodgerref08_Errs_l0 n s0 s1 s5)
  | 0 => fun _ _ _ => rfl
  | n + 1 => by
    have ih := fx_lodgerref08_Errs n
    have e0 : (fun s0 s1 s5 => (Lfix C_lodgerref08_Errs (clD C_lodgerref08_Errs 0) (hdOf C_lodgerref08_Errs hd_lodgerref08_Errs) (finW C_lodgerref08_Errs 51 [Ty.bool] (res1 Ty.bool)) n (todoOf C_lodgerref08_Errs 51 0) (h0_lodgerref08_Errs s0 s1 s5)).opt) = lodgerref08_Errs_l0 n := funext fun s0 => funext fun s1 => funext fun s5 => ih s0 s1 s5
    exact fun s0 s1 s5 => (congrArg D.opt (Lfix_round C_lodgerref08_Errs (clD C_lodgerref08_Errs 0) (hdOf C_lodgerref08_Errs hd_lodgerref08_Errs) 51 0 [Ty.bool] (res1 Ty.bool) n _)).trans ((rd0_lodgerref08_Errs (Lfix C_lodgerref08_Errs (clD C_lodgerref08_Errs 0) (hdOf C_lodgerref08_Errs hd_lodgerref08_Errs) (finW C_lodgerref08_Errs 51 [Ty.bool] (res1 Ty.bool)) n) s0 s1 s5).trans (congrArg (fun x => lodgerref08_Errs_s0  x  s0 s1 s5) e0))
theorem ev_lodgerref08_Errs (n : Nat) (a0 : (List Int)) (a1 : (List Int)) : (runF C_lodgerref08_Errs (clD C_lodgerref08_Errs 0) (hdOf C_lodgerref08_Errs hd_lodgerref08_Errs) 51 [Ty.bool] (res1 Ty.bool) n [encV E (Ty.slice i64) a0, encV E (Ty.slice i64) a1]).opt = lodgerref08_Errs_n n a0 a1 := by
  have ih := fx_lodgerref08_Errs n
  have e0 : (fun s0 s1 s5 => (Lfix C_lodgerref08_Errs (clD C_lodgerref08_Errs 0) (hdOf C_lodgerref08_Errs hd_lodgerref08_Errs) (finW C_lodgerref08_Errs 51 [Ty.bool] (res1 Ty.bool)) n (todoOf C_lodgerref08_Errs 51 0) (h0_lodgerref08_Errs s0 s1 s5)).opt) = lodgerref08_Errs_l0 n := funext fun s0 => funext fun s1 => funext fun s5 => ih s0 s1 s5
  exact (congrArg D.opt (runF_eq C_lodgerref08_Errs (clD C_lodgerref08_Errs 0) (hdOf C_lodgerref08_Errs hd_lodgerref08_Errs) 51 [Ty.bool] (res1 Ty.bool) n _)).trans ((en_lodgerref08_Errs (Lfix C_lodgerref08_Errs (clD C_lodgerref08_Errs 0) (hdOf C_lodgerref08_Errs hd_lodgerref08_Errs) (finW C_lodgerref08_Errs 51 [Ty.bool] (res1 Ty.bool)) n) a0 a1).trans (congrArg (fun x => lodgerref08_Errs_e  x  a0 a1) e0))
theorem ok_lodgerref08_Errs : SpecOK C_lodgerref08_Errs 51 sp_lodgerref08_Errs := by
  have hS := specs_ok (C := C_lodgerref08_Errs) (l := us_lodgerref08_Errs) rfl trivial
  refine spec_ok (C := C_lodgerref08_Errs) (cl := (clD C_lodgerref08_Errs 0)) (hd := (hdOf C_lodgerref08_Errs hd_lodgerref08_Errs)) envOK (tyOK_of (l := tab) rfl tabT) hS (clD_ok envOK (tyOK_of (l := tab) rfl tabT) hS mixed (inl_ok (l := []) rfl (by kernel_rfl)) _) mixed (hdOf_ok envOK hd_lodgerref08_Errs) (by kernel_rfl) [Ty.bool] (res1 Ty.bool) (de1 (S := S) Ty.bool) fun cs r h => ?_
  obtain ⟨a0, a1, rfl, h⟩ := inv2 h
  exact ⟨big, (ev_lodgerref08_Errs big a0 a1).trans ((def_lodgerref08_Errs a0 a1).symm.trans h)⟩
-- lodger/lodgerref08.Answers
def lodgerref08_Answers_b (g_lodgerref08_Addrs : (List Int) → (List Int) → Option (Bool)) (g_lodgerref08_Errs : (List Int) → (List Int) → Option (Bool)) (a0 : Answer) (a1 : Answer) : Option (Bool) := (bif (a0.err == a1.err) then (bif (a0.addr == a1.addr) then (bif (a0.used == a1.used) then ((g_lodgerref08_Addrs a0.addrs a1.addrs).bind fun r1 => (bif r1 then ((g_lodgerref08_Errs a0.errs a1.errs).bind fun r2 => some r2) else some false)) else some false) else some false) else some false)
def sp_lodgerref08_Answers : Spec S := { args := [(Ty.st 3), (Ty.st 3)], R := Bool, run := run2 (Ty.st 3) (Ty.st 3) lodgerref08_Answers, enc := enc1 (S := S) Ty.bool }
def spb_lodgerref08_Answers (F : Answer → Answer → Option (Bool)) : Spec S := { args := [(Ty.st 3), (Ty.st 3)], R := Bool, run := run2 (Ty.st 3) (Ty.st 3) F, enc := enc1 (S := S) Ty.bool }
def usb_lodgerref08_Answers (g_lodgerref08_Addrs : (List Int) → (List Int) → Option (Bool)) (g_lodgerref08_Errs : (List Int) → (List Int) → Option (Bool)) : List (Nat × Spec S) := [(50, spb_lodgerref08_Addrs g_lodgerref08_Addrs), (51, spb_lodgerref08_Errs g_lodgerref08_Errs)]
def us_lodgerref08_Answers : List (Nat × Spec S) := [(50, sp_lodgerref08_Addrs), (51, sp_lodgerref08_Errs)]
noncomputable def Cb_lodgerref08_Answers (g_lodgerref08_Addrs : (List Int) → (List Int) → Option (Bool)) (g_lodgerref08_Errs : (List Int) → (List Int) → Option (Bool)) : Ctx S := { P := Tryd.prog, E := E, ty := tyL tab, G := glL gtab, spec := spL (usb_lodgerref08_Answers g_lodgerref08_Addrs g_lodgerref08_Errs), inl := inL [] }
noncomputable def C_lodgerref08_Answers : Ctx S := Cb_lodgerref08_Answers lodgerref08_Addrs lodgerref08_Errs
theorem evb_lodgerref08_Answers (g_lodgerref08_Addrs : (List Int) → (List Int) → Option (Bool)) (g_lodgerref08_Errs : (List Int) → (List Int) → Option (Bool)) (L : (St S → D (Bool)) → Lp S (Bool)) (a0 : Answer) (a1 : Answer) : (runWF (Cb_lodgerref08_Answers g_lodgerref08_Addrs g_lodgerref08_Errs) (clDF (Cb_lodgerref08_Answers g_lodgerref08_Addrs g_lodgerref08_Errs) 0) L 29 [Ty.bool] (res1 Ty.bool) [encV E (Ty.st 3) a0, encV E (Ty.st 3) a1]).opt = lodgerref08_Answers_b g_lodgerref08_Addrs g_lodgerref08_Errs a0 a1 := by kernel_rfl
theorem ev_lodgerref08_Answers (L : (St S → D (Bool)) → Lp S (Bool)) (a0 : Answer) (a1 : Answer) : (runW C_lodgerref08_Answers (clD C_lodgerref08_Answers 0) L 29 [Ty.bool] (res1 Ty.bool) [encV E (Ty.st 3) a0, encV E (Ty.st 3) a1]).opt = lodgerref08_Answers a0 a1 := (congrArg D.opt (runWF_eq _ _ L _ _ _ _)).trans (evb_lodgerref08_Answers lodgerref08_Addrs lodgerref08_Errs L a0 a1)
theorem ok_lodgerref08_Answers : SpecOK C_lodgerref08_Answers 29 sp_lodgerref08_Answers := by
  have hS := specs_ok (C := C_lodgerref08_Answers) (l := us_lodgerref08_Answers) rfl ⟨ok_lodgerref08_Addrs.re rfl rfl rfl, ok_lodgerref08_Errs.re rfl rfl rfl, trivial⟩
  refine spec_ok (C := C_lodgerref08_Answers) (cl := (clD C_lodgerref08_Answers 0)) (hd := (fun _ s => some s)) envOK (tyOK_of (l := tab) rfl tabT) hS (clD_ok envOK (tyOK_of (l := tab) rfl tabT) hS mixed (inl_ok (l := []) rfl (by kernel_rfl)) _) mixed HdOK.id (by kernel_rfl) [Ty.bool] (res1 Ty.bool) (de1 (S := S) Ty.bool) fun cs r h => ?_
  obtain ⟨a0, a1, rfl, h⟩ := inv2 h
  exact ⟨0, (ev_lodgerref08_Answers _ a0 a1).trans h⟩
-- lodger/lodgerref22.Events
def lodgerref22_Events_s0b (g_lodgerref08_Answers : Answer → Answer → Option (Bool)) (k0 : (List Event) → (List Event) → Int → Option (Bool)) (s0 : (List Event)) (s1 : (List Event)) (s5 : Int) : Option (Bool) := (bif (decide (s5 < (List.length s0 : Int))) then ((geti s0 s5).bind fun x1 => ((geti s1 s5).bind fun x2 => (bif (x1.kind != x2.kind) then some false else (bif (x1.client != x2.client) then some false else (bif (x1.ask != x2.ask) then some false else (bif (x1.item != x2.item) then some false else (bif (x1.at_ != x2.at_) then some false else ((g_lodgerref08_Answers x1.answer x2.answer).bind fun r3 => (bif (not r3) then some false else k0 s0 s1 (IntKind.wrap .i64 (s5 + 1))))))))))) else some true)
def lodgerref22_Events_eb (g_lodgerref08_Answers : Answer → Answer → Option (Bool)) (k0 : (List Event) → (List Event) → Int → Option (Bool)) (a0 : (List Event)) (a1 : (List Event)) : Option (Bool) := (bif ((List.length a0 : Int) != (List.length a1 : Int)) then some false else k0 a0 a1 0)
def sp_lodgerref22_Events : Spec S := { args := [(Ty.slice (Ty.st 6)), (Ty.slice (Ty.st 6))], R := Bool, run := run2 (Ty.slice (Ty.st 6)) (Ty.slice (Ty.st 6)) lodgerref22_Events, enc := enc1 (S := S) Ty.bool }
def spb_lodgerref22_Events (F : (List Event) → (List Event) → Option (Bool)) : Spec S := { args := [(Ty.slice (Ty.st 6)), (Ty.slice (Ty.st 6))], R := Bool, run := run2 (Ty.slice (Ty.st 6)) (Ty.slice (Ty.st 6)) F, enc := enc1 (S := S) Ty.bool }
def usb_lodgerref22_Events (g_lodgerref08_Answers : Answer → Answer → Option (Bool)) : List (Nat × Spec S) := [(29, spb_lodgerref08_Answers g_lodgerref08_Answers)]
def us_lodgerref22_Events : List (Nat × Spec S) := [(29, sp_lodgerref08_Answers)]
noncomputable def Cb_lodgerref22_Events (g_lodgerref08_Answers : Answer → Answer → Option (Bool)) : Ctx S := { P := Tryd.prog, E := E, ty := tyL tab, G := glL gtab, spec := spL (usb_lodgerref22_Events g_lodgerref08_Answers), inl := inL [] }
noncomputable def C_lodgerref22_Events : Ctx S := Cb_lodgerref22_Events lodgerref08_Answers
def hd_lodgerref22_Events : List ((Nat × Nat) × List Hs) := [((2, 4), [.canon 0 [] [0, 1, 5], .plain 0 (Ty.slice (Ty.st 6)), .plain 1 (Ty.slice (Ty.st 6)), .plain 5 i64])]
def h0_lodgerref22_Events (s0 : (List Event)) (s1 : (List Event)) (s5 : Int) : St S := { tmps := [.cell (Ty.slice (Ty.st 6)) s0, .cell (Ty.slice (Ty.st 6)) s1, .undef, .undef, .undef, .cell i64 s5, .undef, .undef, .undef, .undef, .undef, .undef, .undef, .undef, .undef, .undef, .undef, .undef, .undef, .undef, .undef, .undef, .undef, .undef, .undef, .undef, .undef, .undef, .undef, .undef, .undef, .undef, .undef, .undef, .undef, .undef, .undef, .undef, .undef, .undef, .undef, .undef, .undef, .undef, .undef, .undef, .undef, .undef, .undef, .undef, .undef, .undef, .undef, .undef, .undef, .undef, .undef, .undef, .undef, .undef, .undef, .undef, .undef, .undef, .undef, .undef, .undef, .undef], mem := [] }
theorem rdb0_lodgerref22_Events (g_lodgerref08_Answers : Answer → Answer → Option (Bool)) (L : Lp S (Bool)) (s0 : (List Event)) (s1 : (List Event)) (s5 : Int) : (roundWF (Cb_lodgerref22_Events g_lodgerref08_Answers) (clDF (Cb_lodgerref22_Events g_lodgerref08_Answers) 0) (hdOf (Cb_lodgerref22_Events g_lodgerref08_Answers) hd_lodgerref22_Events) 15 0 [Ty.bool] (res1 Ty.bool) L (h0_lodgerref22_Events s0 s1 s5)).opt = lodgerref22_Events_s0b g_lodgerref08_Answers (fun s0 s1 s5 => (L (todoOf (Cb_lodgerref22_Events g_lodgerref08_Answers) 15 0) (h0_lodgerref22_Events s0 s1 s5)).opt) s0 s1 s5 := by kernel_rfl
theorem rd0_lodgerref22_Events (L : Lp S (Bool)) (s0 : (List Event)) (s1 : (List Event)) (s5 : Int) : (roundW C_lodgerref22_Events (clD C_lodgerref22_Events 0) (hdOf C_lodgerref22_Events hd_lodgerref22_Events) 15 0 [Ty.bool] (res1 Ty.bool) L (h0_lodgerref22_Events s0 s1 s5)).opt = lodgerref22_Events_s0 (fun s0 s1 s5 => (L (todoOf C_lodgerref22_Events 15 0) (h0_lodgerref22_Events s0 s1 s5)).opt) s0 s1 s5 := (congrArg D.opt (roundWF_eq _ _ _ _ _ _ _ L _)).trans (rdb0_lodgerref22_Events lodgerref08_Answers L s0 s1 s5)
theorem enb_lodgerref22_Events (g_lodgerref08_Answers : Answer → Answer → Option (Bool)) (L : Lp S (Bool)) (a0 : (List Event)) (a1 : (List Event)) : (runWF (Cb_lodgerref22_Events g_lodgerref08_Answers) (clDF (Cb_lodgerref22_Events g_lodgerref08_Answers) 0) (fun _ => canonL (hdOf (Cb_lodgerref22_Events g_lodgerref08_Answers) hd_lodgerref22_Events) L) 15 [Ty.bool] (res1 Ty.bool) [encV E (Ty.slice (Ty.st 6)) a0, encV E (Ty.slice (Ty.st 6)) a1]).opt = lodgerref22_Events_eb g_lodgerref08_Answers (fun s0 s1 s5 => (L (todoOf (Cb_lodgerref22_Events g_lodgerref08_Answers) 15 0) (h0_lodgerref22_Events s0 s1 s5)).opt) a0 a1 := by kernel_rfl
theorem en_lodgerref22_Events (L : Lp S (Bool)) (a0 : (List Event)) (a1 : (List Event)) : (runW C_lodgerref22_Events (clD C_lodgerref22_Events 0) (fun _ => canonL (hdOf C_lodgerref22_Events hd_lodgerref22_Events) L) 15 [Ty.bool] (res1 Ty.bool) [encV E (Ty.slice (Ty.st 6)) a0, encV E (Ty.slice (Ty.st 6)) a1]).opt = lodgerref22_Events_e (fun s0 s1 s5 => (L (todoOf C_lodgerref22_Events 15 0) (h0_lodgerref22_Events s0 s1 s5)).opt) a0 a1 := (congrArg D.opt (runWF_eq _ _ _ _ _ _ _)).trans (enb_lodgerref22_Events lodgerref08_Answers L a0 a1)
theorem fx_lodgerref22_Events : ∀ n, (∀ (s0 : (List Event)) (s1 : (List Event)) (s5 : Int), (Lfix C_lodgerref22_Events (clD C_lodgerref22_Events 0) (hdOf C_lodgerref22_Events hd_lodgerref22_Events) (finW C_lodgerref22_Events 15 [Ty.bool] (res1 Ty.bool)) n (todoOf C_lodgerref22_Events 15 0) (h0_lodgerref22_Events s0 s1 s5)).opt = lodgerref22_Events_l0 n s0 s1 s5)
  | 0 => fun _ _ _ => rfl
  | n + 1 => by
    have ih := fx_lodgerref22_Events n
    have e0 : (fun s0 s1 s5 => (Lfix C_lodgerref22_Events (clD C_lodgerref22_Events 0) (hdOf C_lodgerref22_Events hd_lodgerref22_Events) (finW C_lodgerref22_Events 15 [Ty.bool] (res1 Ty.bool)) n (todoOf C_lodgerref22_Events 15 0) (h0_lodgerref22_Events s0 s1 s5)).opt) = lodgerref22_Events_l0 n := funext fun s0 => funext fun s1 => funext fun s5 => ih s0 s1 s5
    exact fun s0 s1 s5 => (congrArg D.opt (Lfix_round C_lodgerref22_Events (clD C_lodgerref22_Events 0) (hdOf C_lodgerref22_Events hd_lodgerref22_Events) 15 0 [Ty.bool] (res1 Ty.bool) n _)).trans ((rd0_lodgerref22_Events (Lfix C_lodgerref22_Events (clD C_lodgerref22_Events 0) (hdOf C_lodgerref22_Events hd_lodgerref22_Events) (finW C_lodgerref22_Events 15 [Ty.bool] (res1 Ty.bool)) n) s0 s1 s5).trans (congrArg (fun x => lodgerref22_Events_s0  x  s0 s1 s5) e0))
theorem ev_lodgerref22_Events (n : Nat) (a0 : (List Event)) (a1 : (List Event)) : (runF C_lodgerref22_Events (clD C_lodgerref22_Events 0) (hdOf C_lodgerref22_Events hd_lodgerref22_Events) 15 [Ty.bool] (res1 Ty.bool) n [encV E (Ty.slice (Ty.st 6)) a0, encV E (Ty.slice (Ty.st 6)) a1]).opt = lodgerref22_Events_n n a0 a1 := by
  have ih := fx_lodgerref22_Events n
  have e0 : (fun s0 s1 s5 => (Lfix C_lodgerref22_Events (clD C_lodgerref22_Events 0) (hdOf C_lodgerref22_Events hd_lodgerref22_Events) (finW C_lodgerref22_Events 15 [Ty.bool] (res1 Ty.bool)) n (todoOf C_lodgerref22_Events 15 0) (h0_lodgerref22_Events s0 s1 s5)).opt) = lodgerref22_Events_l0 n := funext fun s0 => funext fun s1 => funext fun s5 => ih s0 s1 s5
  exact (congrArg D.opt (runF_eq C_lodgerref22_Events (clD C_lodgerref22_Events 0) (hdOf C_lodgerref22_Events hd_lodgerref22_Events) 15 [Ty.bool] (res1 Ty.bool) n _)).trans ((en_lodgerref22_Events (Lfix C_lodgerref22_Events (clD C_lodgerref22_Events 0) (hdOf C_lodgerref22_Events hd_lodgerref22_Events) (finW C_lodgerref22_Events 15 [Ty.bool] (res1 Ty.bool)) n) a0 a1).trans (congrArg (fun x => lodgerref22_Events_e  x  a0 a1) e0))
theorem ok_lodgerref22_Events : SpecOK C_lodgerref22_Events 15 sp_lodgerref22_Events := by
  have hS := specs_ok (C := C_lodgerref22_Events) (l := us_lodgerref22_Events) rfl ⟨ok_lodgerref08_Answers.re rfl rfl rfl, trivial⟩
  refine spec_ok (C := C_lodgerref22_Events) (cl := (clD C_lodgerref22_Events 0)) (hd := (hdOf C_lodgerref22_Events hd_lodgerref22_Events)) envOK (tyOK_of (l := tab) rfl tabT) hS (clD_ok envOK (tyOK_of (l := tab) rfl tabT) hS mixed (inl_ok (l := []) rfl (by kernel_rfl)) _) mixed (hdOf_ok envOK hd_lodgerref22_Events) (by kernel_rfl) [Ty.bool] (res1 Ty.bool) (de1 (S := S) Ty.bool) fun cs r h => ?_
  obtain ⟨a0, a1, rfl, h⟩ := inv2 h
  exact ⟨big, (ev_lodgerref22_Events big a0 a1).trans ((def_lodgerref22_Events a0 a1).symm.trans h)⟩
-- lodger/tell.Of
def tell_Of_s0b  (k0 : Int → (List Event) → Int → Int → (List Answer) → Option ((List Answer))) (s1 : Int) (s8 : (List Event)) (s9 : Int) (s10 : Int) (m0 : (List Answer)) : Option ((List Answer)) := (bif (decide (s10 < s9)) then ((geti s8 s10).bind fun x1 => (bif (x1.kind == 3) then (bif (x1.client == s1) then (bif (decide (m0.length + ([x1.answer] : List Answer).length ≤ maxList)) then k0 s1 s8 s9 (IntKind.wrap .i64 (s10 + 1)) (m0 ++ ([x1.answer] : List Answer)) else none) else k0 s1 s8 s9 (IntKind.wrap .i64 (s10 + 1)) m0) else k0 s1 s8 s9 (IntKind.wrap .i64 (s10 + 1)) m0)) else some m0)
def tell_Of_eb  (k0 : Int → (List Event) → Int → Int → (List Answer) → Option ((List Answer))) (a0 : (List Event)) (a1 : Int) : Option ((List Answer)) := k0 a1 a0 (List.length a0 : Int) 0 ([] : (List Answer))
def sp_tell_Of : Spec S := { args := [(Ty.slice (Ty.st 6)), i64], R := (List Answer), run := run2 (Ty.slice (Ty.st 6)) i64 tell_Of, enc := enc1 (S := S) (Ty.slice (Ty.st 3)) }
def spb_tell_Of (F : (List Event) → Int → Option ((List Answer))) : Spec S := { args := [(Ty.slice (Ty.st 6)), i64], R := (List Answer), run := run2 (Ty.slice (Ty.st 6)) i64 F, enc := enc1 (S := S) (Ty.slice (Ty.st 3)) }
def usb_tell_Of  : List (Nat × Spec S) := []
def us_tell_Of : List (Nat × Spec S) := []
noncomputable def Cb_tell_Of  : Ctx S := { P := Tryd.prog, E := E, ty := tyL tab, G := glL gtab, spec := spL (usb_tell_Of ), inl := inL [] }
noncomputable def C_tell_Of : Ctx S := Cb_tell_Of 
def hd_tell_Of : List ((Nat × Nat) × List Hs) := [((2, 3), [.promo 5 41 (Ty.st 3), .canon 1 [0] [1, 5, 8, 9, 10], .plain 1 i64, .plain 8 (Ty.slice (Ty.st 6)), .plain 9 i64, .plain 10 i64])]
def h0_tell_Of (s1 : Int) (s8 : (List Event)) (s9 : Int) (s10 : Int) (m0 : (List Answer)) : St S := { tmps := [.undef, .cell i64 s1, .undef, .undef, .undef, .own 0 0, .undef, .undef, .cell (Ty.slice (Ty.st 6)) s8, .cell i64 s9, .cell i64 s10, .undef, .undef, .undef, .undef, .undef, .undef, .undef, .undef, .undef, .undef, .undef, .undef, .undef, .undef, .undef, .undef, .undef, .undef, .undef], mem := [.arr 41 (Ty.st 3) m0 0 false] }
theorem rdb0_tell_Of  (L : Lp S ((List Answer))) (s1 : Int) (s8 : (List Event)) (s9 : Int) (s10 : Int) (m0 : (List Answer)) : (roundWF (Cb_tell_Of ) (clDF (Cb_tell_Of ) 0) (hdOf (Cb_tell_Of ) hd_tell_Of) 16 0 [(Ty.slice (Ty.st 3))] (res1 (Ty.slice (Ty.st 3))) L (h0_tell_Of s1 s8 s9 s10 m0)).opt = tell_Of_s0b  (fun s1 s8 s9 s10 m0 => (L (todoOf (Cb_tell_Of ) 16 0) (h0_tell_Of s1 s8 s9 s10 m0)).opt) s1 s8 s9 s10 m0 := by kernel_rfl
theorem rd0_tell_Of (L : Lp S ((List Answer))) (s1 : Int) (s8 : (List Event)) (s9 : Int) (s10 : Int) (m0 : (List Answer)) : (roundW C_tell_Of (clD C_tell_Of 0) (hdOf C_tell_Of hd_tell_Of) 16 0 [(Ty.slice (Ty.st 3))] (res1 (Ty.slice (Ty.st 3))) L (h0_tell_Of s1 s8 s9 s10 m0)).opt = tell_Of_s0 (fun s1 s8 s9 s10 m0 => (L (todoOf C_tell_Of 16 0) (h0_tell_Of s1 s8 s9 s10 m0)).opt) s1 s8 s9 s10 m0 := (congrArg D.opt (roundWF_eq _ _ _ _ _ _ _ L _)).trans (rdb0_tell_Of  L s1 s8 s9 s10 m0)
theorem enb_tell_Of  (L : Lp S ((List Answer))) (a0 : (List Event)) (a1 : Int) : (runWF (Cb_tell_Of ) (clDF (Cb_tell_Of ) 0) (fun _ => canonL (hdOf (Cb_tell_Of ) hd_tell_Of) L) 16 [(Ty.slice (Ty.st 3))] (res1 (Ty.slice (Ty.st 3))) [encV E (Ty.slice (Ty.st 6)) a0, encV E i64 a1]).opt = tell_Of_eb  (fun s1 s8 s9 s10 m0 => (L (todoOf (Cb_tell_Of ) 16 0) (h0_tell_Of s1 s8 s9 s10 m0)).opt) a0 a1 := by kernel_rfl
theorem en_tell_Of (L : Lp S ((List Answer))) (a0 : (List Event)) (a1 : Int) : (runW C_tell_Of (clD C_tell_Of 0) (fun _ => canonL (hdOf C_tell_Of hd_tell_Of) L) 16 [(Ty.slice (Ty.st 3))] (res1 (Ty.slice (Ty.st 3))) [encV E (Ty.slice (Ty.st 6)) a0, encV E i64 a1]).opt = tell_Of_e (fun s1 s8 s9 s10 m0 => (L (todoOf C_tell_Of 16 0) (h0_tell_Of s1 s8 s9 s10 m0)).opt) a0 a1 := (congrArg D.opt (runWF_eq _ _ _ _ _ _ _)).trans (enb_tell_Of  L a0 a1)
theorem fx_tell_Of : ∀ n, (∀ (s1 : Int) (s8 : (List Event)) (s9 : Int) (s10 : Int) (m0 : (List Answer)), (Lfix C_tell_Of (clD C_tell_Of 0) (hdOf C_tell_Of hd_tell_Of) (finW C_tell_Of 16 [(Ty.slice (Ty.st 3))] (res1 (Ty.slice (Ty.st 3)))) n (todoOf C_tell_Of 16 0) (h0_tell_Of s1 s8 s9 s10 m0)).opt = tell_Of_l0 n s1 s8 s9 s10 m0)
  | 0 => fun _ _ _ _ _ => rfl
  | n + 1 => by
    have ih := fx_tell_Of n
    have e0 : (fun s1 s8 s9 s10 m0 => (Lfix C_tell_Of (clD C_tell_Of 0) (hdOf C_tell_Of hd_tell_Of) (finW C_tell_Of 16 [(Ty.slice (Ty.st 3))] (res1 (Ty.slice (Ty.st 3)))) n (todoOf C_tell_Of 16 0) (h0_tell_Of s1 s8 s9 s10 m0)).opt) = tell_Of_l0 n := funext fun s1 => funext fun s8 => funext fun s9 => funext fun s10 => funext fun m0 => ih s1 s8 s9 s10 m0
    exact fun s1 s8 s9 s10 m0 => (congrArg D.opt (Lfix_round C_tell_Of (clD C_tell_Of 0) (hdOf C_tell_Of hd_tell_Of) 16 0 [(Ty.slice (Ty.st 3))] (res1 (Ty.slice (Ty.st 3))) n _)).trans ((rd0_tell_Of (Lfix C_tell_Of (clD C_tell_Of 0) (hdOf C_tell_Of hd_tell_Of) (finW C_tell_Of 16 [(Ty.slice (Ty.st 3))] (res1 (Ty.slice (Ty.st 3)))) n) s1 s8 s9 s10 m0).trans (congrArg (fun x => tell_Of_s0  x  s1 s8 s9 s10 m0) e0))
theorem ev_tell_Of (n : Nat) (a0 : (List Event)) (a1 : Int) : (runF C_tell_Of (clD C_tell_Of 0) (hdOf C_tell_Of hd_tell_Of) 16 [(Ty.slice (Ty.st 3))] (res1 (Ty.slice (Ty.st 3))) n [encV E (Ty.slice (Ty.st 6)) a0, encV E i64 a1]).opt = tell_Of_n n a0 a1 := by
  have ih := fx_tell_Of n
  have e0 : (fun s1 s8 s9 s10 m0 => (Lfix C_tell_Of (clD C_tell_Of 0) (hdOf C_tell_Of hd_tell_Of) (finW C_tell_Of 16 [(Ty.slice (Ty.st 3))] (res1 (Ty.slice (Ty.st 3)))) n (todoOf C_tell_Of 16 0) (h0_tell_Of s1 s8 s9 s10 m0)).opt) = tell_Of_l0 n := funext fun s1 => funext fun s8 => funext fun s9 => funext fun s10 => funext fun m0 => ih s1 s8 s9 s10 m0
  exact (congrArg D.opt (runF_eq C_tell_Of (clD C_tell_Of 0) (hdOf C_tell_Of hd_tell_Of) 16 [(Ty.slice (Ty.st 3))] (res1 (Ty.slice (Ty.st 3))) n _)).trans ((en_tell_Of (Lfix C_tell_Of (clD C_tell_Of 0) (hdOf C_tell_Of hd_tell_Of) (finW C_tell_Of 16 [(Ty.slice (Ty.st 3))] (res1 (Ty.slice (Ty.st 3)))) n) a0 a1).trans (congrArg (fun x => tell_Of_e  x  a0 a1) e0))
theorem ok_tell_Of : SpecOK C_tell_Of 16 sp_tell_Of := by
  have hS := specs_ok (C := C_tell_Of) (l := us_tell_Of) rfl trivial
  refine spec_ok (C := C_tell_Of) (cl := (clD C_tell_Of 0)) (hd := (hdOf C_tell_Of hd_tell_Of)) envOK (tyOK_of (l := tab) rfl tabT) hS (clD_ok envOK (tyOK_of (l := tab) rfl tabT) hS mixed (inl_ok (l := []) rfl (by kernel_rfl)) _) mixed (hdOf_ok envOK hd_tell_Of) (by kernel_rfl) [(Ty.slice (Ty.st 3))] (res1 (Ty.slice (Ty.st 3))) (de1 (S := S) (Ty.slice (Ty.st 3))) fun cs r h => ?_
  obtain ⟨a0, a1, rfl, h⟩ := inv2 h
  exact ⟨big, (ev_tell_Of big a0 a1).trans ((def_tell_Of a0 a1).symm.trans h)⟩
-- lodger/lodgerref28.Few
def lodgerref28_Few_s0b  (k0 : (List Event) → Int → Int → Option (Bool)) (s0 : (List Event)) (s3 : Int) (s4 : Int) : Option (Bool) := (bif (decide (s4 < (List.length s0 : Int))) then (bif (decide (s4 < 200)) then ((geti s0 s4).bind fun x1 => ((geti s0 s4).bind fun x2 => k0 s0 (IntKind.wrap .i64 ((IntKind.wrap .i64 (s3 + (List.length x1.answer.addrs : Int))) + (List.length x2.answer.errs : Int))) (IntKind.wrap .i64 (s4 + 1)))) else (bif (decide ((List.length s0 : Int) ≤ 150)) then some (decide (s3 ≤ 1000)) else some false)) else (bif (decide ((List.length s0 : Int) ≤ 150)) then some (decide (s3 ≤ 1000)) else some false))
def lodgerref28_Few_eb  (k0 : (List Event) → Int → Int → Option (Bool)) (a0 : (List Event)) : Option (Bool) := k0 a0 0 0
def sp_lodgerref28_Few : Spec S := { args := [(Ty.slice (Ty.st 6))], R := Bool, run := run1 (Ty.slice (Ty.st 6)) lodgerref28_Few, enc := enc1 (S := S) Ty.bool }
def spb_lodgerref28_Few (F : (List Event) → Option (Bool)) : Spec S := { args := [(Ty.slice (Ty.st 6))], R := Bool, run := run1 (Ty.slice (Ty.st 6)) F, enc := enc1 (S := S) Ty.bool }
def usb_lodgerref28_Few  : List (Nat × Spec S) := []
def us_lodgerref28_Few : List (Nat × Spec S) := []
noncomputable def Cb_lodgerref28_Few  : Ctx S := { P := Tryd.prog, E := E, ty := tyL tab, G := glL gtab, spec := spL (usb_lodgerref28_Few ), inl := inL [] }
noncomputable def C_lodgerref28_Few : Ctx S := Cb_lodgerref28_Few 
def hd_lodgerref28_Few : List ((Nat × Nat) × List Hs) := [((2, 3), [.canon 0 [] [0, 3, 4], .plain 0 (Ty.slice (Ty.st 6)), .plain 3 i64, .plain 4 i64])]
def h0_lodgerref28_Few (s0 : (List Event)) (s3 : Int) (s4 : Int) : St S := { tmps := [.cell (Ty.slice (Ty.st 6)) s0, .undef, .undef, .cell i64 s3, .cell i64 s4, .undef, .undef, .undef, .undef, .undef, .undef, .undef, .undef, .undef, .undef, .undef, .undef, .undef, .undef, .undef, .undef, .undef, .undef, .undef, .undef, .undef, .undef, .undef, .undef, .undef, .undef, .undef, .undef, .undef, .undef, .undef, .undef, .undef, .undef], mem := [] }
theorem rdb0_lodgerref28_Few  (L : Lp S (Bool)) (s0 : (List Event)) (s3 : Int) (s4 : Int) : (roundWF (Cb_lodgerref28_Few ) (clDF (Cb_lodgerref28_Few ) 0) (hdOf (Cb_lodgerref28_Few ) hd_lodgerref28_Few) 8 0 [Ty.bool] (res1 Ty.bool) L (h0_lodgerref28_Few s0 s3 s4)).opt = lodgerref28_Few_s0b  (fun s0 s3 s4 => (L (todoOf (Cb_lodgerref28_Few ) 8 0) (h0_lodgerref28_Few s0 s3 s4)).opt) s0 s3 s4 := by kernel_rfl
theorem rd0_lodgerref28_Few (L : Lp S (Bool)) (s0 : (List Event)) (s3 : Int) (s4 : Int) : (roundW C_lodgerref28_Few (clD C_lodgerref28_Few 0) (hdOf C_lodgerref28_Few hd_lodgerref28_Few) 8 0 [Ty.bool] (res1 Ty.bool) L (h0_lodgerref28_Few s0 s3 s4)).opt = lodgerref28_Few_s0 (fun s0 s3 s4 => (L (todoOf C_lodgerref28_Few 8 0) (h0_lodgerref28_Few s0 s3 s4)).opt) s0 s3 s4 := (congrArg D.opt (roundWF_eq _ _ _ _ _ _ _ L _)).trans (rdb0_lodgerref28_Few  L s0 s3 s4)
theorem enb_lodgerref28_Few  (L : Lp S (Bool)) (a0 : (List Event)) : (runWF (Cb_lodgerref28_Few ) (clDF (Cb_lodgerref28_Few ) 0) (fun _ => canonL (hdOf (Cb_lodgerref28_Few ) hd_lodgerref28_Few) L) 8 [Ty.bool] (res1 Ty.bool) [encV E (Ty.slice (Ty.st 6)) a0]).opt = lodgerref28_Few_eb  (fun s0 s3 s4 => (L (todoOf (Cb_lodgerref28_Few ) 8 0) (h0_lodgerref28_Few s0 s3 s4)).opt) a0 := by kernel_rfl
theorem en_lodgerref28_Few (L : Lp S (Bool)) (a0 : (List Event)) : (runW C_lodgerref28_Few (clD C_lodgerref28_Few 0) (fun _ => canonL (hdOf C_lodgerref28_Few hd_lodgerref28_Few) L) 8 [Ty.bool] (res1 Ty.bool) [encV E (Ty.slice (Ty.st 6)) a0]).opt = lodgerref28_Few_e (fun s0 s3 s4 => (L (todoOf C_lodgerref28_Few 8 0) (h0_lodgerref28_Few s0 s3 s4)).opt) a0 := (congrArg D.opt (runWF_eq _ _ _ _ _ _ _)).trans (enb_lodgerref28_Few  L a0)
theorem fx_lodgerref28_Few : ∀ n, (∀ (s0 : (List Event)) (s3 : Int) (s4 : Int), (Lfix C_lodgerref28_Few (clD C_lodgerref28_Few 0) (hdOf C_lodgerref28_Few hd_lodgerref28_Few) (finW C_lodgerref28_Few 8 [Ty.bool] (res1 Ty.bool)) n (todoOf C_lodgerref28_Few 8 0) (h0_lodgerref28_Few s0 s3 s4)).opt = lodgerref28_Few_l0 n s0 s3 s4)
  | 0 => fun _ _ _ => rfl
  | n + 1 => by
    have ih := fx_lodgerref28_Few n
    have e0 : (fun s0 s3 s4 => (Lfix C_lodgerref28_Few (clD C_lodgerref28_Few 0) (hdOf C_lodgerref28_Few hd_lodgerref28_Few) (finW C_lodgerref28_Few 8 [Ty.bool] (res1 Ty.bool)) n (todoOf C_lodgerref28_Few 8 0) (h0_lodgerref28_Few s0 s3 s4)).opt) = lodgerref28_Few_l0 n := funext fun s0 => funext fun s3 => funext fun s4 => ih s0 s3 s4
    exact fun s0 s3 s4 => (congrArg D.opt (Lfix_round C_lodgerref28_Few (clD C_lodgerref28_Few 0) (hdOf C_lodgerref28_Few hd_lodgerref28_Few) 8 0 [Ty.bool] (res1 Ty.bool) n _)).trans ((rd0_lodgerref28_Few (Lfix C_lodgerref28_Few (clD C_lodgerref28_Few 0) (hdOf C_lodgerref28_Few hd_lodgerref28_Few) (finW C_lodgerref28_Few 8 [Ty.bool] (res1 Ty.bool)) n) s0 s3 s4).trans (congrArg (fun x => lodgerref28_Few_s0  x  s0 s3 s4) e0))
theorem ev_lodgerref28_Few (n : Nat) (a0 : (List Event)) : (runF C_lodgerref28_Few (clD C_lodgerref28_Few 0) (hdOf C_lodgerref28_Few hd_lodgerref28_Few) 8 [Ty.bool] (res1 Ty.bool) n [encV E (Ty.slice (Ty.st 6)) a0]).opt = lodgerref28_Few_n n a0 := by
  have ih := fx_lodgerref28_Few n
  have e0 : (fun s0 s3 s4 => (Lfix C_lodgerref28_Few (clD C_lodgerref28_Few 0) (hdOf C_lodgerref28_Few hd_lodgerref28_Few) (finW C_lodgerref28_Few 8 [Ty.bool] (res1 Ty.bool)) n (todoOf C_lodgerref28_Few 8 0) (h0_lodgerref28_Few s0 s3 s4)).opt) = lodgerref28_Few_l0 n := funext fun s0 => funext fun s3 => funext fun s4 => ih s0 s3 s4
  exact (congrArg D.opt (runF_eq C_lodgerref28_Few (clD C_lodgerref28_Few 0) (hdOf C_lodgerref28_Few hd_lodgerref28_Few) 8 [Ty.bool] (res1 Ty.bool) n _)).trans ((en_lodgerref28_Few (Lfix C_lodgerref28_Few (clD C_lodgerref28_Few 0) (hdOf C_lodgerref28_Few hd_lodgerref28_Few) (finW C_lodgerref28_Few 8 [Ty.bool] (res1 Ty.bool)) n) a0).trans (congrArg (fun x => lodgerref28_Few_e  x  a0) e0))
theorem ok_lodgerref28_Few : SpecOK C_lodgerref28_Few 8 sp_lodgerref28_Few := by
  have hS := specs_ok (C := C_lodgerref28_Few) (l := us_lodgerref28_Few) rfl trivial
  refine spec_ok (C := C_lodgerref28_Few) (cl := (clD C_lodgerref28_Few 0)) (hd := (hdOf C_lodgerref28_Few hd_lodgerref28_Few)) envOK (tyOK_of (l := tab) rfl tabT) hS (clD_ok envOK (tyOK_of (l := tab) rfl tabT) hS mixed (inl_ok (l := []) rfl (by kernel_rfl)) _) mixed (hdOf_ok envOK hd_lodgerref28_Few) (by kernel_rfl) [Ty.bool] (res1 Ty.bool) (de1 (S := S) Ty.bool) fun cs r h => ?_
  obtain ⟨a0, rfl, h⟩ := inv1 h
  exact ⟨big, (ev_lodgerref28_Few big a0).trans ((def_lodgerref28_Few a0).symm.trans h)⟩
-- lodger/lodgerref28.fit
def lodgerref28_fit_b  (a0 : Int) : Option (Bool) := (bif (decide (a0 ≥ 0)) then some (decide (a0 ≤ 1099511627776)) else some false)
def sp_lodgerref28_fit : Spec S := { args := [i64], R := Bool, run := run1 i64 lodgerref28_fit, enc := enc1 (S := S) Ty.bool }
def spb_lodgerref28_fit (F : Int → Option (Bool)) : Spec S := { args := [i64], R := Bool, run := run1 i64 F, enc := enc1 (S := S) Ty.bool }
def usb_lodgerref28_fit  : List (Nat × Spec S) := []
def us_lodgerref28_fit : List (Nat × Spec S) := []
noncomputable def Cb_lodgerref28_fit  : Ctx S := { P := Tryd.prog, E := E, ty := tyL tab, G := glL gtab, spec := spL (usb_lodgerref28_fit ), inl := inL [] }
noncomputable def C_lodgerref28_fit : Ctx S := Cb_lodgerref28_fit 
theorem evb_lodgerref28_fit  (L : (St S → D (Bool)) → Lp S (Bool)) (a0 : Int) : (runWF (Cb_lodgerref28_fit ) (clDF (Cb_lodgerref28_fit ) 0) L 28 [Ty.bool] (res1 Ty.bool) [encV E i64 a0]).opt = lodgerref28_fit_b  a0 := by kernel_rfl
theorem ev_lodgerref28_fit (L : (St S → D (Bool)) → Lp S (Bool)) (a0 : Int) : (runW C_lodgerref28_fit (clD C_lodgerref28_fit 0) L 28 [Ty.bool] (res1 Ty.bool) [encV E i64 a0]).opt = lodgerref28_fit a0 := (congrArg D.opt (runWF_eq _ _ L _ _ _ _)).trans (evb_lodgerref28_fit  L a0)
theorem ok_lodgerref28_fit : SpecOK C_lodgerref28_fit 28 sp_lodgerref28_fit := by
  have hS := specs_ok (C := C_lodgerref28_fit) (l := us_lodgerref28_fit) rfl trivial
  refine spec_ok (C := C_lodgerref28_fit) (cl := (clD C_lodgerref28_fit 0)) (hd := (fun _ s => some s)) envOK (tyOK_of (l := tab) rfl tabT) hS (clD_ok envOK (tyOK_of (l := tab) rfl tabT) hS mixed (inl_ok (l := []) rfl (by kernel_rfl)) _) mixed HdOK.id (by kernel_rfl) [Ty.bool] (res1 Ty.bool) (de1 (S := S) Ty.bool) fun cs r h => ?_
  obtain ⟨a0, rfl, h⟩ := inv1 h
  exact ⟨0, (ev_lodgerref28_fit _ a0).trans h⟩
-- lodger/lodgerref28.May
def lodgerref28_May_s0b (g_lodgerref28_fit : Int → Option (Bool)) (k0 : (List Event) → Int → Option (Bool)) (k1 : (List Event) → Int → Int → Answer → Option (Bool)) (s0 : (List Event)) (s3 : Int) : Option (Bool) := (bif (decide (s3 < (List.length s0 : Int))) then ((geti s0 s3).bind fun x1 => (bif (decide (x1.kind < 1)) then some false else (bif (decide (x1.kind > 3)) then some false else ((g_lodgerref28_fit x1.client).bind fun r2 => (bif (not r2) then some false else ((g_lodgerref28_fit x1.ask).bind fun r3 => (bif (not r3) then some false else ((g_lodgerref28_fit x1.item).bind fun r4 => (bif (not r4) then some false else ((g_lodgerref28_fit x1.at_).bind fun r5 => (bif (not r5) then some false else (bif (decide (x1.answer.err < 0)) then some false else (bif (decide (x1.answer.err > 12)) then some false else (bif (decide ((List.length x1.answer.addrs : Int) > 300)) then some false else (bif (decide ((List.length x1.answer.errs : Int) > 300)) then some false else k1 s0 s3 0 x1.answer))))))))))))))) else some true)
def lodgerref28_May_s1b (g_lodgerref28_fit : Int → Option (Bool)) (k0 : (List Event) → Int → Option (Bool)) (k1 : (List Event) → Int → Int → Answer → Option (Bool)) (s0 : (List Event)) (s3 : Int) (s6 : Int) (m1 : Answer) : Option (Bool) := (bif (decide (s6 < (List.length m1.errs : Int))) then ((geti m1.errs s6).bind fun x6 => (bif (decide (x6 < 0)) then some false else ((geti m1.errs s6).bind fun x7 => (bif (decide (x7 > 12)) then some false else k1 s0 s3 (IntKind.wrap .i64 (s6 + 1)) m1)))) else k0 s0 (IntKind.wrap .i64 (s3 + 1)))
def lodgerref28_May_eb (g_lodgerref28_fit : Int → Option (Bool)) (k0 : (List Event) → Int → Option (Bool)) (k1 : (List Event) → Int → Int → Answer → Option (Bool)) (a0 : (List Event)) : Option (Bool) := k0 a0 0
def sp_lodgerref28_May : Spec S := { args := [(Ty.slice (Ty.st 6))], R := Bool, run := run1 (Ty.slice (Ty.st 6)) lodgerref28_May, enc := enc1 (S := S) Ty.bool }
def spb_lodgerref28_May (F : (List Event) → Option (Bool)) : Spec S := { args := [(Ty.slice (Ty.st 6))], R := Bool, run := run1 (Ty.slice (Ty.st 6)) F, enc := enc1 (S := S) Ty.bool }
def usb_lodgerref28_May (g_lodgerref28_fit : Int → Option (Bool)) : List (Nat × Spec S) := [(28, spb_lodgerref28_fit g_lodgerref28_fit)]
def us_lodgerref28_May : List (Nat × Spec S) := [(28, sp_lodgerref28_fit)]
noncomputable def Cb_lodgerref28_May (g_lodgerref28_fit : Int → Option (Bool)) : Ctx S := { P := Tryd.prog, E := E, ty := tyL tab, G := glL gtab, spec := spL (usb_lodgerref28_May g_lodgerref28_fit), inl := inL [] }
noncomputable def C_lodgerref28_May : Ctx S := Cb_lodgerref28_May lodgerref28_fit
def hd_lodgerref28_May : List ((Nat × Nat) × List Hs) := [((2, 2), [.canon 0 [] [0, 3], .plain 0 (Ty.slice (Ty.st 6)), .plain 3 i64]), ((6, 9), [.canon 2 [1] [0, 3, 5, 6], .plain 0 (Ty.slice (Ty.st 6)), .plain 3 i64, .plain 6 i64, .plainB 1 0 (Ty.st 3)])]
def h0_lodgerref28_May (s0 : (List Event)) (s3 : Int) : St S := { tmps := [.cell (Ty.slice (Ty.st 6)) s0, .undef, .undef, .cell i64 s3, .undef, .undef, .undef, .undef, .undef, .undef, .undef, .undef, .undef, .undef, .undef, .undef, .undef, .undef, .undef, .undef, .undef, .undef, .undef, .undef, .undef, .undef, .undef, .undef, .undef, .undef, .undef, .undef, .undef, .undef, .undef, .undef, .undef, .undef, .undef, .undef, .undef, .undef, .undef, .undef, .undef, .undef, .undef, .undef, .undef, .undef, .undef, .undef, .undef, .undef, .undef, .undef, .undef, .undef, .undef, .undef, .undef, .undef, .undef, .undef, .undef, .undef, .undef, .undef, .undef, .undef, .undef, .undef, .undef, .undef, .undef, .undef, .undef, .undef, .undef, .undef, .undef, .undef, .undef, .undef, .undef, .undef, .undef, .undef, .undef, .undef, .undef, .undef, .undef, .undef], mem := [] }
def h1_lodgerref28_May (s0 : (List Event)) (s3 : Int) (s6 : Int) (m1 : Answer) : St S := { tmps := [.cell (Ty.slice (Ty.st 6)) s0, .undef, .undef, .cell i64 s3, .undef, .ptr 1 0, .cell i64 s6, .undef, .undef, .undef, .undef, .undef, .undef, .undef, .undef, .undef, .undef, .undef, .undef, .undef, .undef, .undef, .undef, .undef, .undef, .undef, .undef, .undef, .undef, .undef, .undef, .undef, .undef, .undef, .undef, .undef, .undef, .undef, .undef, .undef, .undef, .undef, .undef, .undef, .undef, .undef, .undef, .undef, .undef, .undef, .undef, .undef, .undef, .undef, .undef, .undef, .undef, .undef, .undef, .undef, .undef, .undef, .undef, .undef, .undef, .undef, .undef, .undef, .undef, .undef, .undef, .undef, .undef, .undef, .undef, .undef, .undef, .undef, .undef, .undef, .undef, .undef, .undef, .undef, .undef, .undef, .undef, .undef, .undef, .undef, .undef, .undef, .undef, .undef], mem := [.box [.undef, .undef, .undef, .undef, .undef, .undef, .undef, .undef, .undef, .undef] false, .box [.cell i64 m1.err, .cell u32 m1.addr, .cell Ty.bool m1.used, .cell (Ty.slice u32) m1.addrs, .cell (Ty.slice i64) m1.errs] false] }
theorem rdb0_lodgerref28_May (g_lodgerref28_fit : Int → Option (Bool)) (L : Lp S (Bool)) (s0 : (List Event)) (s3 : Int) : (roundWF (Cb_lodgerref28_May g_lodgerref28_fit) (clDF (Cb_lodgerref28_May g_lodgerref28_fit) 0) (hdOf (Cb_lodgerref28_May g_lodgerref28_fit) hd_lodgerref28_May) 14 0 [Ty.bool] (res1 Ty.bool) L (h0_lodgerref28_May s0 s3)).opt = lodgerref28_May_s0b g_lodgerref28_fit (fun s0 s3 => (L (todoOf (Cb_lodgerref28_May g_lodgerref28_fit) 14 0) (h0_lodgerref28_May s0 s3)).opt) (fun s0 s3 s6 m1 => (L (todoOf (Cb_lodgerref28_May g_lodgerref28_fit) 14 1) (h1_lodgerref28_May s0 s3 s6 m1)).opt) s0 s3 := by kernel_rfl
theorem rd0_lodgerref28_May (L : Lp S (Bool)) (s0 : (List Event)) (s3 : Int) : (roundW C_lodgerref28_May (clD C_lodgerref28_May 0) (hdOf C_lodgerref28_May hd_lodgerref28_May) 14 0 [Ty.bool] (res1 Ty.bool) L (h0_lodgerref28_May s0 s3)).opt = lodgerref28_May_s0 (fun s0 s3 => (L (todoOf C_lodgerref28_May 14 0) (h0_lodgerref28_May s0 s3)).opt) (fun s0 s3 s6 m1 => (L (todoOf C_lodgerref28_May 14 1) (h1_lodgerref28_May s0 s3 s6 m1)).opt) s0 s3 := (congrArg D.opt (roundWF_eq _ _ _ _ _ _ _ L _)).trans (rdb0_lodgerref28_May lodgerref28_fit L s0 s3)
theorem rdb1_lodgerref28_May (g_lodgerref28_fit : Int → Option (Bool)) (L : Lp S (Bool)) (s0 : (List Event)) (s3 : Int) (s6 : Int) (m1 : Answer) : (roundWF (Cb_lodgerref28_May g_lodgerref28_fit) (clDF (Cb_lodgerref28_May g_lodgerref28_fit) 0) (hdOf (Cb_lodgerref28_May g_lodgerref28_fit) hd_lodgerref28_May) 14 1 [Ty.bool] (res1 Ty.bool) L (h1_lodgerref28_May s0 s3 s6 m1)).opt = lodgerref28_May_s1b g_lodgerref28_fit (fun s0 s3 => (L (todoOf (Cb_lodgerref28_May g_lodgerref28_fit) 14 0) (h0_lodgerref28_May s0 s3)).opt) (fun s0 s3 s6 m1 => (L (todoOf (Cb_lodgerref28_May g_lodgerref28_fit) 14 1) (h1_lodgerref28_May s0 s3 s6 m1)).opt) s0 s3 s6 m1 := by kernel_rfl
theorem rd1_lodgerref28_May (L : Lp S (Bool)) (s0 : (List Event)) (s3 : Int) (s6 : Int) (m1 : Answer) : (roundW C_lodgerref28_May (clD C_lodgerref28_May 0) (hdOf C_lodgerref28_May hd_lodgerref28_May) 14 1 [Ty.bool] (res1 Ty.bool) L (h1_lodgerref28_May s0 s3 s6 m1)).opt = lodgerref28_May_s1 (fun s0 s3 => (L (todoOf C_lodgerref28_May 14 0) (h0_lodgerref28_May s0 s3)).opt) (fun s0 s3 s6 m1 => (L (todoOf C_lodgerref28_May 14 1) (h1_lodgerref28_May s0 s3 s6 m1)).opt) s0 s3 s6 m1 := (congrArg D.opt (roundWF_eq _ _ _ _ _ _ _ L _)).trans (rdb1_lodgerref28_May lodgerref28_fit L s0 s3 s6 m1)
theorem enb_lodgerref28_May (g_lodgerref28_fit : Int → Option (Bool)) (L : Lp S (Bool)) (a0 : (List Event)) : (runWF (Cb_lodgerref28_May g_lodgerref28_fit) (clDF (Cb_lodgerref28_May g_lodgerref28_fit) 0) (fun _ => canonL (hdOf (Cb_lodgerref28_May g_lodgerref28_fit) hd_lodgerref28_May) L) 14 [Ty.bool] (res1 Ty.bool) [encV E (Ty.slice (Ty.st 6)) a0]).opt = lodgerref28_May_eb g_lodgerref28_fit (fun s0 s3 => (L (todoOf (Cb_lodgerref28_May g_lodgerref28_fit) 14 0) (h0_lodgerref28_May s0 s3)).opt) (fun s0 s3 s6 m1 => (L (todoOf (Cb_lodgerref28_May g_lodgerref28_fit) 14 1) (h1_lodgerref28_May s0 s3 s6 m1)).opt) a0 := by kernel_rfl
theorem en_lodgerref28_May (L : Lp S (Bool)) (a0 : (List Event)) : (runW C_lodgerref28_May (clD C_lodgerref28_May 0) (fun _ => canonL (hdOf C_lodgerref28_May hd_lodgerref28_May) L) 14 [Ty.bool] (res1 Ty.bool) [encV E (Ty.slice (Ty.st 6)) a0]).opt = lodgerref28_May_e (fun s0 s3 => (L (todoOf C_lodgerref28_May 14 0) (h0_lodgerref28_May s0 s3)).opt) (fun s0 s3 s6 m1 => (L (todoOf C_lodgerref28_May 14 1) (h1_lodgerref28_May s0 s3 s6 m1)).opt) a0 := (congrArg D.opt (runWF_eq _ _ _ _ _ _ _)).trans (enb_lodgerref28_May lodgerref28_fit L a0)
theorem fx_lodgerref28_May : ∀ n, (∀ (s0 : (List Event)) (s3 : Int), (Lfix C_lodgerref28_May (clD C_lodgerref28_May 0) (hdOf C_lodgerref28_May hd_lodgerref28_May) (finW C_lodgerref28_May 14 [Ty.bool] (res1 Ty.bool)) n (todoOf C_lodgerref28_May 14 0) (h0_lodgerref28_May s0 s3)).opt = lodgerref28_May_l0 n s0 s3) ∧ (∀ (s0 : (List Event)) (s3 : Int) (s6 : Int) (m1 : Answer), (Lfix C_lodgerref28_May (clD C_lodgerref28_May 0) (hdOf C_lodgerref28_May hd_lodgerref28_May) (finW C_lodgerref28_May 14 [Ty.bool] (res1 Ty.bool)) n (todoOf C_lodgerref28_May 14 1) (h1_lodgerref28_May s0 s3 s6 m1)).opt = lodgerref28_May_l1 n s0 s3 s6 m1)
  | 0 => ⟨fun _ _ => rfl, fun _ _ _ _ => rfl⟩
  | n + 1 => by
    have ih := fx_lodgerref28_May n
    have e0 : (fun s0 s3 => (Lfix C_lodgerref28_May (clD C_lodgerref28_May 0) (hdOf C_lodgerref28_May hd_lodgerref28_May) (finW C_lodgerref28_May 14 [Ty.bool] (res1 Ty.bool)) n (todoOf C_lodgerref28_May 14 0) (h0_lodgerref28_May s0 s3)).opt) = lodgerref28_May_l0 n := funext fun s0 => funext fun s3 => ih.1 s0 s3
    have e1 : (fun s0 s3 s6 m1 => (Lfix C_lodgerref28_May (clD C_lodgerref28_May 0) (hdOf C_lodgerref28_May hd_lodgerref28_May) (finW C_lodgerref28_May 14 [Ty.bool] (res1 Ty.bool)) n (todoOf C_lodgerref28_May 14 1) (h1_lodgerref28_May s0 s3 s6 m1)).opt) = lodgerref28_May_l1 n := funext fun s0 => funext fun s3 => funext fun s6 => funext fun m1 => ih.2 s0 s3 s6 m1
    exact ⟨fun s0 s3 => (congrArg D.opt (Lfix_round C_lodgerref28_May (clD C_lodgerref28_May 0) (hdOf C_lodgerref28_May hd_lodgerref28_May) 14 0 [Ty.bool] (res1 Ty.bool) n _)).trans ((rd0_lodgerref28_May (Lfix C_lodgerref28_May (clD C_lodgerref28_May 0) (hdOf C_lodgerref28_May hd_lodgerref28_May) (finW C_lodgerref28_May 14 [Ty.bool] (res1 Ty.bool)) n) s0 s3).trans ((congrArg (fun x => lodgerref28_May_s0  x (fun s0 s3 s6 m1 => (Lfix C_lodgerref28_May (clD C_lodgerref28_May 0) (hdOf C_lodgerref28_May hd_lodgerref28_May) (finW C_lodgerref28_May 14 [Ty.bool] (res1 Ty.bool)) n (todoOf C_lodgerref28_May 14 1) (h1_lodgerref28_May s0 s3 s6 m1)).opt) s0 s3) e0).trans (congrArg (fun x => lodgerref28_May_s0 (lodgerref28_May_l0 n) x  s0 s3) e1))), fun s0 s3 s6 m1 => (congrArg D.opt (Lfix_round C_lodgerref28_May (clD C_lodgerref28_May 0) (hdOf C_lodgerref28_May hd_lodgerref28_May) 14 1 [Ty.bool] (res1 Ty.bool) n _)).trans ((rd1_lodgerref28_May (Lfix C_lodgerref28_May (clD C_lodgerref28_May 0) (hdOf C_lodgerref28_May hd_lodgerref28_May) (finW C_lodgerref28_May 14 [Ty.bool] (res1 Ty.bool)) n) s0 s3 s6 m1).trans ((congrArg (fun x => lodgerref28_May_s1  x (fun s0 s3 s6 m1 => (Lfix C_lodgerref28_May (clD C_lodgerref28_May 0) (hdOf C_lodgerref28_May hd_lodgerref28_May) (finW C_lodgerref28_May 14 [Ty.bool] (res1 Ty.bool)) n (todoOf C_lodgerref28_May 14 1) (h1_lodgerref28_May s0 s3 s6 m1)).opt) s0 s3 s6 m1) e0).trans (congrArg (fun x => lodgerref28_May_s1 (lodgerref28_May_l0 n) x  s0 s3 s6 m1) e1)))⟩
theorem ev_lodgerref28_May (n : Nat) (a0 : (List Event)) : (runF C_lodgerref28_May (clD C_lodgerref28_May 0) (hdOf C_lodgerref28_May hd_lodgerref28_May) 14 [Ty.bool] (res1 Ty.bool) n [encV E (Ty.slice (Ty.st 6)) a0]).opt = lodgerref28_May_n n a0 := by
  have ih := fx_lodgerref28_May n
  have e0 : (fun s0 s3 => (Lfix C_lodgerref28_May (clD C_lodgerref28_May 0) (hdOf C_lodgerref28_May hd_lodgerref28_May) (finW C_lodgerref28_May 14 [Ty.bool] (res1 Ty.bool)) n (todoOf C_lodgerref28_May 14 0) (h0_lodgerref28_May s0 s3)).opt) = lodgerref28_May_l0 n := funext fun s0 => funext fun s3 => ih.1 s0 s3
  have e1 : (fun s0 s3 s6 m1 => (Lfix C_lodgerref28_May (clD C_lodgerref28_May 0) (hdOf C_lodgerref28_May hd_lodgerref28_May) (finW C_lodgerref28_May 14 [Ty.bool] (res1 Ty.bool)) n (todoOf C_lodgerref28_May 14 1) (h1_lodgerref28_May s0 s3 s6 m1)).opt) = lodgerref28_May_l1 n := funext fun s0 => funext fun s3 => funext fun s6 => funext fun m1 => ih.2 s0 s3 s6 m1
  exact (congrArg D.opt (runF_eq C_lodgerref28_May (clD C_lodgerref28_May 0) (hdOf C_lodgerref28_May hd_lodgerref28_May) 14 [Ty.bool] (res1 Ty.bool) n _)).trans ((en_lodgerref28_May (Lfix C_lodgerref28_May (clD C_lodgerref28_May 0) (hdOf C_lodgerref28_May hd_lodgerref28_May) (finW C_lodgerref28_May 14 [Ty.bool] (res1 Ty.bool)) n) a0).trans ((congrArg (fun x => lodgerref28_May_e  x (fun s0 s3 s6 m1 => (Lfix C_lodgerref28_May (clD C_lodgerref28_May 0) (hdOf C_lodgerref28_May hd_lodgerref28_May) (finW C_lodgerref28_May 14 [Ty.bool] (res1 Ty.bool)) n (todoOf C_lodgerref28_May 14 1) (h1_lodgerref28_May s0 s3 s6 m1)).opt) a0) e0).trans (congrArg (fun x => lodgerref28_May_e (lodgerref28_May_l0 n) x  a0) e1)))
theorem ok_lodgerref28_May : SpecOK C_lodgerref28_May 14 sp_lodgerref28_May := by
  have hS := specs_ok (C := C_lodgerref28_May) (l := us_lodgerref28_May) rfl ⟨ok_lodgerref28_fit.re rfl rfl rfl, trivial⟩
  refine spec_ok (C := C_lodgerref28_May) (cl := (clD C_lodgerref28_May 0)) (hd := (hdOf C_lodgerref28_May hd_lodgerref28_May)) envOK (tyOK_of (l := tab) rfl tabT) hS (clD_ok envOK (tyOK_of (l := tab) rfl tabT) hS mixed (inl_ok (l := []) rfl (by kernel_rfl)) _) mixed (hdOf_ok envOK hd_lodgerref28_May) (by kernel_rfl) [Ty.bool] (res1 Ty.bool) (de1 (S := S) Ty.bool) fun cs r h => ?_
  obtain ⟨a0, rfl, h⟩ := inv1 h
  exact ⟨big, (ev_lodgerref28_May big a0).trans ((def_lodgerref28_May a0).symm.trans h)⟩
-- lodger/lodgerref28.dec
def lodgerref28_dec_s0b  (k0 : Int → (List UInt8) → Option ((List UInt8))) (s0 : Int) (s3 : (List UInt8)) : Option ((List UInt8)) := (bif (decide ((strOf ([(IntKind.wrap .u8 (IntKind.wrap .i64 (48 + (Int.tmod s0 10))))] : List Int)).length + s3.length ≤ 1152921504606846976)) then (bif ((IntKind.wrap .i64 (Int.tdiv s0 10)) == 0) then some ((strOf ([(IntKind.wrap .u8 (IntKind.wrap .i64 (48 + (Int.tmod s0 10))))] : List Int)) ++ s3) else k0 (IntKind.wrap .i64 (Int.tdiv s0 10)) ((strOf ([(IntKind.wrap .u8 (IntKind.wrap .i64 (48 + (Int.tmod s0 10))))] : List Int)) ++ s3)) else none)
def lodgerref28_dec_eb  (k0 : Int → (List UInt8) → Option ((List UInt8))) (a0 : Int) : Option ((List UInt8)) := k0 a0 ([] : List UInt8)
def sp_lodgerref28_dec : Spec S := { args := [i64], R := (List UInt8), run := run1 i64 lodgerref28_dec, enc := enc1 (S := S) Ty.str }
def spb_lodgerref28_dec (F : Int → Option ((List UInt8))) : Spec S := { args := [i64], R := (List UInt8), run := run1 i64 F, enc := enc1 (S := S) Ty.str }
def usb_lodgerref28_dec  : List (Nat × Spec S) := []
def us_lodgerref28_dec : List (Nat × Spec S) := []
noncomputable def Cb_lodgerref28_dec  : Ctx S := { P := Tryd.prog, E := E, ty := tyL tab, G := glL gtab, spec := spL (usb_lodgerref28_dec ), inl := inL [] }
noncomputable def C_lodgerref28_dec : Ctx S := Cb_lodgerref28_dec 
def hd_lodgerref28_dec : List ((Nat × Nat) × List Hs) := [((1, 2), [.canon 0 [] [0, 3], .plain 0 i64, .plain 3 Ty.str])]
def h0_lodgerref28_dec (s0 : Int) (s3 : (List UInt8)) : St S := { tmps := [.cell i64 s0, .undef, .undef, .cell Ty.str s3, .undef, .undef, .undef, .undef, .undef, .undef, .undef, .undef, .undef, .undef, .undef, .undef, .undef], mem := [] }
theorem rdb0_lodgerref28_dec  (L : Lp S ((List UInt8))) (s0 : Int) (s3 : (List UInt8)) : (roundWF (Cb_lodgerref28_dec ) (clDF (Cb_lodgerref28_dec ) 0) (hdOf (Cb_lodgerref28_dec ) hd_lodgerref28_dec) 20 0 [Ty.str] (res1 Ty.str) L (h0_lodgerref28_dec s0 s3)).opt = lodgerref28_dec_s0b  (fun s0 s3 => (L (todoOf (Cb_lodgerref28_dec ) 20 0) (h0_lodgerref28_dec s0 s3)).opt) s0 s3 := by kernel_rfl
theorem rd0_lodgerref28_dec (L : Lp S ((List UInt8))) (s0 : Int) (s3 : (List UInt8)) : (roundW C_lodgerref28_dec (clD C_lodgerref28_dec 0) (hdOf C_lodgerref28_dec hd_lodgerref28_dec) 20 0 [Ty.str] (res1 Ty.str) L (h0_lodgerref28_dec s0 s3)).opt = lodgerref28_dec_s0 (fun s0 s3 => (L (todoOf C_lodgerref28_dec 20 0) (h0_lodgerref28_dec s0 s3)).opt) s0 s3 := (congrArg D.opt (roundWF_eq _ _ _ _ _ _ _ L _)).trans (rdb0_lodgerref28_dec  L s0 s3)
theorem enb_lodgerref28_dec  (L : Lp S ((List UInt8))) (a0 : Int) : (runWF (Cb_lodgerref28_dec ) (clDF (Cb_lodgerref28_dec ) 0) (fun _ => canonL (hdOf (Cb_lodgerref28_dec ) hd_lodgerref28_dec) L) 20 [Ty.str] (res1 Ty.str) [encV E i64 a0]).opt = lodgerref28_dec_eb  (fun s0 s3 => (L (todoOf (Cb_lodgerref28_dec ) 20 0) (h0_lodgerref28_dec s0 s3)).opt) a0 := by kernel_rfl
theorem en_lodgerref28_dec (L : Lp S ((List UInt8))) (a0 : Int) : (runW C_lodgerref28_dec (clD C_lodgerref28_dec 0) (fun _ => canonL (hdOf C_lodgerref28_dec hd_lodgerref28_dec) L) 20 [Ty.str] (res1 Ty.str) [encV E i64 a0]).opt = lodgerref28_dec_e (fun s0 s3 => (L (todoOf C_lodgerref28_dec 20 0) (h0_lodgerref28_dec s0 s3)).opt) a0 := (congrArg D.opt (runWF_eq _ _ _ _ _ _ _)).trans (enb_lodgerref28_dec  L a0)
theorem fx_lodgerref28_dec : ∀ n, (∀ (s0 : Int) (s3 : (List UInt8)), (Lfix C_lodgerref28_dec (clD C_lodgerref28_dec 0) (hdOf C_lodgerref28_dec hd_lodgerref28_dec) (finW C_lodgerref28_dec 20 [Ty.str] (res1 Ty.str)) n (todoOf C_lodgerref28_dec 20 0) (h0_lodgerref28_dec s0 s3)).opt = lodgerref28_dec_l0 n s0 s3)
  | 0 => fun _ _ => rfl
  | n + 1 => by
    have ih := fx_lodgerref28_dec n
    have e0 : (fun s0 s3 => (Lfix C_lodgerref28_dec (clD C_lodgerref28_dec 0) (hdOf C_lodgerref28_dec hd_lodgerref28_dec) (finW C_lodgerref28_dec 20 [Ty.str] (res1 Ty.str)) n (todoOf C_lodgerref28_dec 20 0) (h0_lodgerref28_dec s0 s3)).opt) = lodgerref28_dec_l0 n := funext fun s0 => funext fun s3 => ih s0 s3
    exact fun s0 s3 => (congrArg D.opt (Lfix_round C_lodgerref28_dec (clD C_lodgerref28_dec 0) (hdOf C_lodgerref28_dec hd_lodgerref28_dec) 20 0 [Ty.str] (res1 Ty.str) n _)).trans ((rd0_lodgerref28_dec (Lfix C_lodgerref28_dec (clD C_lodgerref28_dec 0) (hdOf C_lodgerref28_dec hd_lodgerref28_dec) (finW C_lodgerref28_dec 20 [Ty.str] (res1 Ty.str)) n) s0 s3).trans (congrArg (fun x => lodgerref28_dec_s0  x  s0 s3) e0))
theorem ev_lodgerref28_dec (n : Nat) (a0 : Int) : (runF C_lodgerref28_dec (clD C_lodgerref28_dec 0) (hdOf C_lodgerref28_dec hd_lodgerref28_dec) 20 [Ty.str] (res1 Ty.str) n [encV E i64 a0]).opt = lodgerref28_dec_n n a0 := by
  have ih := fx_lodgerref28_dec n
  have e0 : (fun s0 s3 => (Lfix C_lodgerref28_dec (clD C_lodgerref28_dec 0) (hdOf C_lodgerref28_dec hd_lodgerref28_dec) (finW C_lodgerref28_dec 20 [Ty.str] (res1 Ty.str)) n (todoOf C_lodgerref28_dec 20 0) (h0_lodgerref28_dec s0 s3)).opt) = lodgerref28_dec_l0 n := funext fun s0 => funext fun s3 => ih s0 s3
  exact (congrArg D.opt (runF_eq C_lodgerref28_dec (clD C_lodgerref28_dec 0) (hdOf C_lodgerref28_dec hd_lodgerref28_dec) 20 [Ty.str] (res1 Ty.str) n _)).trans ((en_lodgerref28_dec (Lfix C_lodgerref28_dec (clD C_lodgerref28_dec 0) (hdOf C_lodgerref28_dec hd_lodgerref28_dec) (finW C_lodgerref28_dec 20 [Ty.str] (res1 Ty.str)) n) a0).trans (congrArg (fun x => lodgerref28_dec_e  x  a0) e0))
theorem ok_lodgerref28_dec : SpecOK C_lodgerref28_dec 20 sp_lodgerref28_dec := by
  have hS := specs_ok (C := C_lodgerref28_dec) (l := us_lodgerref28_dec) rfl trivial
  refine spec_ok (C := C_lodgerref28_dec) (cl := (clD C_lodgerref28_dec 0)) (hd := (hdOf C_lodgerref28_dec hd_lodgerref28_dec)) envOK (tyOK_of (l := tab) rfl tabT) hS (clD_ok envOK (tyOK_of (l := tab) rfl tabT) hS mixed (inl_ok (l := []) rfl (by kernel_rfl)) _) mixed (hdOf_ok envOK hd_lodgerref28_dec) (by kernel_rfl) [Ty.str] (res1 Ty.str) (de1 (S := S) Ty.str) fun cs r h => ?_
  obtain ⟨a0, rfl, h⟩ := inv1 h
  exact ⟨big, (ev_lodgerref28_dec big a0).trans ((def_lodgerref28_dec a0).symm.trans h)⟩
-- lodger/lodgerref04.dec
def sp_lodgerref04_dec : Spec S := { args := [i64], R := (List UInt8), run := run1 i64 lodgerref04_dec, enc := enc1 (S := S) Ty.str }
def spb_lodgerref04_dec (F : Int → Option ((List UInt8))) : Spec S := { args := [i64], R := (List UInt8), run := run1 i64 F, enc := enc1 (S := S) Ty.str }
def usb_lodgerref04_dec (g_lodgerref04_dec : Int → Option ((List UInt8))) : List (Nat × Spec S) := [(34, spb_lodgerref04_dec g_lodgerref04_dec)]
noncomputable def Cb_lodgerref04_dec (g_lodgerref04_dec : Int → Option ((List UInt8))) : Ctx S := { P := Tryd.prog, E := E, ty := tyL tab, G := glL gtab, spec := spL (usb_lodgerref04_dec g_lodgerref04_dec), inl := inL [] }
noncomputable def C_lodgerref04_dec : Ctx S := Cb_lodgerref04_dec lodgerref04_dec
theorem evb_lodgerref04_dec (g_lodgerref04_dec : Int → Option ((List UInt8))) (L : (St S → D ((List UInt8))) → Lp S ((List UInt8))) (a0 : Int) : (runWF (Cb_lodgerref04_dec g_lodgerref04_dec) (clDF (Cb_lodgerref04_dec g_lodgerref04_dec) 0) L 34 [Ty.str] (res1 Ty.str) [encV E i64 a0]).opt = lodgerref04_dec_b g_lodgerref04_dec a0 := by kernel_rfl
theorem okb_lodgerref04_dec (g_lodgerref04_dec : Int → Option ((List UInt8))) (h : SpecOK (Cb_lodgerref04_dec g_lodgerref04_dec) 34 (spb_lodgerref04_dec g_lodgerref04_dec)) : SpecOK (Cb_lodgerref04_dec g_lodgerref04_dec) 34 (spb_lodgerref04_dec (lodgerref04_dec_b g_lodgerref04_dec)) := by
  have hS := specs_ok (C := (Cb_lodgerref04_dec g_lodgerref04_dec)) (l := usb_lodgerref04_dec g_lodgerref04_dec) rfl ⟨h, trivial⟩
  refine spec_ok (C := (Cb_lodgerref04_dec g_lodgerref04_dec)) (cl := (clD (Cb_lodgerref04_dec g_lodgerref04_dec) 0)) (hd := (fun _ s => some s)) envOK (tyOK_of (l := tab) rfl tabT) hS (clD_ok envOK (tyOK_of (l := tab) rfl tabT) hS mixed (inl_ok (l := []) rfl (by kernel_rfl)) _) mixed HdOK.id (by kernel_rfl) [Ty.str] (res1 Ty.str) (de1 (S := S) Ty.str) fun cs r h => ?_
  obtain ⟨a0, rfl, h⟩ := inv1 h
  exact ⟨0, ((congrArg D.opt (runWF_eq _ _ _ _ _ _ _)).trans (evb_lodgerref04_dec g_lodgerref04_dec _ a0)).trans h⟩
theorem okr_lodgerref04_dec : ∀ n, SpecOK (Cb_lodgerref04_dec (lodgerref04_dec_r n)) 34 (spb_lodgerref04_dec (lodgerref04_dec_r n))
  | 0 => ⟨lvEnters (by kernel_rfl), fun _ _ _ _ _ _ _ _ h => by obtain ⟨_, _, h⟩ := inv1 h; cases h⟩
  | n + 1 => (okb_lodgerref04_dec (lodgerref04_dec_r n) (okr_lodgerref04_dec n)).re rfl rfl rfl
theorem ok_lodgerref04_dec : SpecOK C_lodgerref04_dec 34 sp_lodgerref04_dec := (okr_lodgerref04_dec big).re rfl rfl rfl
-- lodger/lodgerref04.Text
def lodgerref04_Text_b (g_lodgerref04_dec : Int → Option ((List UInt8))) (a0 : Int) : Option ((List UInt8)) := ((g_lodgerref04_dec (IntKind.wrap .i64 (IntKind.wrap .u32 (Int.tdiv a0 16777216)))).bind fun r1 => (bif (decide (r1.length + ([46] : List UInt8).length ≤ 1152921504606846976)) then ((g_lodgerref04_dec (IntKind.wrap .i64 (Int.tmod (IntKind.wrap .u32 (Int.tdiv a0 65536)) 256))).bind fun r2 => (bif (decide ((r1 ++ ([46] : List UInt8)).length + r2.length ≤ 1152921504606846976)) then (bif (decide (((r1 ++ ([46] : List UInt8)) ++ r2).length + ([46] : List UInt8).length ≤ 1152921504606846976)) then ((g_lodgerref04_dec (IntKind.wrap .i64 (Int.tmod (IntKind.wrap .u32 (Int.tdiv a0 256)) 256))).bind fun r3 => (bif (decide ((((r1 ++ ([46] : List UInt8)) ++ r2) ++ ([46] : List UInt8)).length + r3.length ≤ 1152921504606846976)) then (bif (decide (((((r1 ++ ([46] : List UInt8)) ++ r2) ++ ([46] : List UInt8)) ++ r3).length + ([46] : List UInt8).length ≤ 1152921504606846976)) then ((g_lodgerref04_dec (IntKind.wrap .i64 (Int.tmod a0 256))).bind fun r4 => (bif (decide ((((((r1 ++ ([46] : List UInt8)) ++ r2) ++ ([46] : List UInt8)) ++ r3) ++ ([46] : List UInt8)).length + r4.length ≤ 1152921504606846976)) then some ((((((r1 ++ ([46] : List UInt8)) ++ r2) ++ ([46] : List UInt8)) ++ r3) ++ ([46] : List UInt8)) ++ r4) else none)) else none) else none)) else none) else none)) else none))
def sp_lodgerref04_Text : Spec S := { args := [u32], R := (List UInt8), run := run1 u32 lodgerref04_Text, enc := enc1 (S := S) Ty.str }
def spb_lodgerref04_Text (F : Int → Option ((List UInt8))) : Spec S := { args := [u32], R := (List UInt8), run := run1 u32 F, enc := enc1 (S := S) Ty.str }
def usb_lodgerref04_Text (g_lodgerref04_dec : Int → Option ((List UInt8))) : List (Nat × Spec S) := [(34, spb_lodgerref04_dec g_lodgerref04_dec)]
def us_lodgerref04_Text : List (Nat × Spec S) := [(34, sp_lodgerref04_dec)]
noncomputable def Cb_lodgerref04_Text (g_lodgerref04_dec : Int → Option ((List UInt8))) : Ctx S := { P := Tryd.prog, E := E, ty := tyL tab, G := glL gtab, spec := spL (usb_lodgerref04_Text g_lodgerref04_dec), inl := inL [] }
noncomputable def C_lodgerref04_Text : Ctx S := Cb_lodgerref04_Text lodgerref04_dec
theorem evb_lodgerref04_Text (g_lodgerref04_dec : Int → Option ((List UInt8))) (L : (St S → D ((List UInt8))) → Lp S ((List UInt8))) (a0 : Int) : (runWF (Cb_lodgerref04_Text g_lodgerref04_dec) (clDF (Cb_lodgerref04_Text g_lodgerref04_dec) 0) L 21 [Ty.str] (res1 Ty.str) [encV E u32 a0]).opt = lodgerref04_Text_b g_lodgerref04_dec a0 := by kernel_rfl
theorem ev_lodgerref04_Text (L : (St S → D ((List UInt8))) → Lp S ((List UInt8))) (a0 : Int) : (runW C_lodgerref04_Text (clD C_lodgerref04_Text 0) L 21 [Ty.str] (res1 Ty.str) [encV E u32 a0]).opt = lodgerref04_Text a0 := (congrArg D.opt (runWF_eq _ _ L _ _ _ _)).trans (evb_lodgerref04_Text lodgerref04_dec L a0)
theorem ok_lodgerref04_Text : SpecOK C_lodgerref04_Text 21 sp_lodgerref04_Text := by
  have hS := specs_ok (C := C_lodgerref04_Text) (l := us_lodgerref04_Text) rfl ⟨ok_lodgerref04_dec.re rfl rfl rfl, trivial⟩
  refine spec_ok (C := C_lodgerref04_Text) (cl := (clD C_lodgerref04_Text 0)) (hd := (fun _ s => some s)) envOK (tyOK_of (l := tab) rfl tabT) hS (clD_ok envOK (tyOK_of (l := tab) rfl tabT) hS mixed (inl_ok (l := []) rfl (by kernel_rfl)) _) mixed HdOK.id (by kernel_rfl) [Ty.str] (res1 Ty.str) (de1 (S := S) Ty.str) fun cs r h => ?_
  obtain ⟨a0, rfl, h⟩ := inv1 h
  exact ⟨0, (ev_lodgerref04_Text _ a0).trans h⟩
end Go.Lv.Ld
