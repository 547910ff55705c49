import Derived.Test.YtmmfioeadefceaaDoorLvO2A2
namespace Go.Lv.Ld
open Go Go.Lv Go.Proofs
set_option linter.all false
set_option maxRecDepth 100000
-- lodger/lodgerlaw13.awake
def lodgerlaw13_awake_b (g_claim_Step : Conf → (List Int) → Oq → Option ((List Int) × Oq × Bool)) (g_lodgerref02_Same : (List Int) → (List Int) → Option (Bool))  : Option (Bool) := ((g_claim_Step (⟨⟨8, 31⟩, [], 1, 1, 1, 1⟩ : Conf) ([4294967292, 0, 0] : List Int) (⟨⟨1, 0, []⟩, ⟨0, 0, false, [], []⟩, 2, 0, 0, 0, 0, 0, false, [], 0, 0, 0, 0⟩ : Oq)).bind fun r1 => ((g_claim_Step (⟨⟨8, 31⟩, [], 1, 1, 1, 1⟩ : Conf) r1.1 r1.2.1).bind fun r2 => ((g_claim_Step (⟨⟨8, 31⟩, [], 1, 1, 1, 1⟩ : Conf) r2.1 r1.2.1).bind fun r3 => ((g_claim_Step (⟨⟨8, 31⟩, [], 1, 1, 1, 1⟩ : Conf) ([4294967295, 0, 0] : List Int) (⟨⟨1, 0, []⟩, ⟨0, 0, false, [], []⟩, 2, 0, 0, 0, 0, 0, false, [], 0, 0, 0, 0⟩ : Oq)).bind fun r4 => (bif (not r1.2.2) then (bif (r1.2.1.phase == 3) then (bif (r1.2.1.bit == 0) then (bif r2.2.2 then (bif (r2.2.1.answer.addr == 8) then (bif (r2.2.1.phase == 0) then ((g_lodgerref02_Same r2.1 ([8589934589, 0, 0] : List Int)).bind fun r5 => (bif r5 then (bif (not r3.2.2) then (bif (r3.2.1.phase == 2) then ((g_lodgerref02_Same r3.1 r2.1).bind fun r6 => (bif r6 then (bif (r4.2.1.phase == 6) then some (r4.2.1.sought == 1) else some false) else some false)) else some false) else some false) else some false)) else some false) else some false) else some false) else some false) else some false) else some false)))))
def sp_lodgerlaw13_awake : Spec S := { args := [], R := Bool, run := run0  lodgerlaw13_awake, enc := enc1 (S := S) Ty.bool }
def spb_lodgerlaw13_awake (F : Option (Bool)) : Spec S := { args := [], R := Bool, run := run0  F, enc := enc1 (S := S) Ty.bool }
def usb_lodgerlaw13_awake (g_claim_Step : Conf → (List Int) → Oq → Option ((List Int) × Oq × Bool)) (g_lodgerref02_Same : (List Int) → (List Int) → Option (Bool)) : List (Nat × Spec S) := [(14, spb_claim_Step g_claim_Step), (17, spb_lodgerref02_Same g_lodgerref02_Same)]
def us_lodgerlaw13_awake : List (Nat × Spec S) := [(14, sp_claim_Step), (17, sp_lodgerref02_Same)]
noncomputable def Cb_lodgerlaw13_awake (g_claim_Step : Conf → (List Int) → Oq → Option ((List Int) × Oq × Bool)) (g_lodgerref02_Same : (List Int) → (List Int) → Option (Bool)) : Ctx S := { P := Tryd.prog, E := E, ty := tyL tab, G := glL gtab, spec := spL (usb_lodgerlaw13_awake g_claim_Step g_lodgerref02_Same), inl := inL [] }
noncomputable def C_lodgerlaw13_awake : Ctx S := Cb_lodgerlaw13_awake claim_Step lodgerref02_Same
theorem evb_lodgerlaw13_awake (g_claim_Step : Conf → (List Int) → Oq → Option ((List Int) × Oq × Bool)) (g_lodgerref02_Same : (List Int) → (List Int) → Option (Bool)) (L : (St S → D (Bool)) → Lp S (Bool))  : (runWF (Cb_lodgerlaw13_awake g_claim_Step g_lodgerref02_Same) (clDF (Cb_lodgerlaw13_awake g_claim_Step g_lodgerref02_Same) 0) L 10 [Ty.bool] (res1 Ty.bool) []).opt = lodgerlaw13_awake_b g_claim_Step g_lodgerref02_Same  := by kernel_rfl
theorem ev_lodgerlaw13_awake (L : (St S → D (Bool)) → Lp S (Bool))  : (runW C_lodgerlaw13_awake (clD C_lodgerlaw13_awake 0) L 10 [Ty.bool] (res1 Ty.bool) []).opt = lodgerlaw13_awake  := (congrArg D.opt (runWF_eq _ _ L _ _ _ _)).trans (evb_lodgerlaw13_awake claim_Step lodgerref02_Same L )
theorem ok_lodgerlaw13_awake : SpecOK C_lodgerlaw13_awake 10 sp_lodgerlaw13_awake := by
  have hS := specs_ok (C := C_lodgerlaw13_awake) (l := us_lodgerlaw13_awake) rfl ⟨ok_claim_Step.re rfl rfl rfl, ok_lodgerref02_Same.re rfl rfl rfl, trivial⟩
  refine spec_ok (C := C_lodgerlaw13_awake) (cl := (clD C_lodgerlaw13_awake 0)) (hd := (fun _ s => some s)) envOK (tyOK_of (l := tab) rfl tabT) hS (clD_ok envOK (tyOK_of (l := tab) rfl tabT) hS mixed (inl_ok (l := []) rfl (by kernel_rfl)) _) mixed HdOK.id (by kernel_rfl) [Ty.bool] (res1 Ty.bool) (de1 (S := S) Ty.bool) fun cs r h => ?_
  exact run0_ev0 (F := lodgerlaw13_awake) ev_lodgerlaw13_awake h
end Go.Lv.Ld
