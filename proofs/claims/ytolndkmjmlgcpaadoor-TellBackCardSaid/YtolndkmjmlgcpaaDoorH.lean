import Derived.Test.YtolndkmjmlgcpaaDoorG
import Derived.Test.YtolndkmjmlgcpaaDoorD
import Derived.Test.YtolndkmjmlgcpaaDoorE
namespace Go.Lv.Ld
open Go Go.Lv Go.Proofs
set_option linter.all false
set_option maxRecDepth 100000
-- lodger/lodgerref28.Put
def lodgerref28_Put_s0b (g_lodgerref28_May : (List Event) → Option (Bool)) (g_lodgerref28_dec : Int → Option ((List UInt8))) (g_lodgerref04_Text : Int → Option ((List UInt8))) (k0 : (List Event) → (List UInt8) → Int → Option ((List UInt8) × Int)) (k1 : (List Event) → (List UInt8) → Int → (List UInt8) → Int → Answer → Option ((List UInt8) × Int)) (k2 : (List Event) → (List UInt8) → Int → (List UInt8) → Int → Answer → Option ((List UInt8) × Int)) (s0 : (List Event)) (s4 : (List UInt8)) (s5 : Int) : Option ((List UInt8) × Int) := (bif (decide (s5 < (List.length s0 : Int))) then ((geti s0 s5).bind fun x2 => ((g_lodgerref28_dec x2.kind).bind fun r3 => (bif (decide (r3.length + ([32] : List UInt8).length ≤ 1152921504606846976)) then ((g_lodgerref28_dec x2.client).bind fun r4 => (bif (decide ((r3 ++ ([32] : List UInt8)).length + r4.length ≤ 1152921504606846976)) then (bif (decide (((r3 ++ ([32] : List UInt8)) ++ r4).length + ([32] : List UInt8).length ≤ 1152921504606846976)) then ((g_lodgerref28_dec x2.ask).bind fun r5 => (bif (decide ((((r3 ++ ([32] : List UInt8)) ++ r4) ++ ([32] : List UInt8)).length + r5.length ≤ 1152921504606846976)) then (bif (decide (((((r3 ++ ([32] : List UInt8)) ++ r4) ++ ([32] : List UInt8)) ++ r5).length + ([32] : List UInt8).length ≤ 1152921504606846976)) then ((g_lodgerref28_dec x2.item).bind fun r6 => (bif (decide ((((((r3 ++ ([32] : List UInt8)) ++ r4) ++ ([32] : List UInt8)) ++ r5) ++ ([32] : List UInt8)).length + r6.length ≤ 1152921504606846976)) then (bif (decide (((((((r3 ++ ([32] : List UInt8)) ++ r4) ++ ([32] : List UInt8)) ++ r5) ++ ([32] : List UInt8)) ++ r6).length + ([32] : List UInt8).length ≤ 1152921504606846976)) then ((g_lodgerref28_dec x2.at_).bind fun r7 => (bif (decide ((((((((r3 ++ ([32] : List UInt8)) ++ r4) ++ ([32] : List UInt8)) ++ r5) ++ ([32] : List UInt8)) ++ r6) ++ ([32] : List UInt8)).length + r7.length ≤ 1152921504606846976)) then (bif (decide (((((((((r3 ++ ([32] : List UInt8)) ++ r4) ++ ([32] : List UInt8)) ++ r5) ++ ([32] : List UInt8)) ++ r6) ++ ([32] : List UInt8)) ++ r7).length + ([32] : List UInt8).length ≤ 1152921504606846976)) then ((g_lodgerref28_dec x2.answer.err).bind fun r8 => (bif (decide ((((((((((r3 ++ ([32] : List UInt8)) ++ r4) ++ ([32] : List UInt8)) ++ r5) ++ ([32] : List UInt8)) ++ r6) ++ ([32] : List UInt8)) ++ r7) ++ ([32] : List UInt8)).length + r8.length ≤ 1152921504606846976)) then (bif (decide (((((((((((r3 ++ ([32] : List UInt8)) ++ r4) ++ ([32] : List UInt8)) ++ r5) ++ ([32] : List UInt8)) ++ r6) ++ ([32] : List UInt8)) ++ r7) ++ ([32] : List UInt8)) ++ r8).length + ([32] : List UInt8).length ≤ 1152921504606846976)) then ((g_lodgerref04_Text x2.answer.addr).bind fun r9 => (bif (decide ((((((((((((r3 ++ ([32] : List UInt8)) ++ r4) ++ ([32] : List UInt8)) ++ r5) ++ ([32] : List UInt8)) ++ r6) ++ ([32] : List UInt8)) ++ r7) ++ ([32] : List UInt8)) ++ r8) ++ ([32] : List UInt8)).length + r9.length ≤ 1152921504606846976)) then (bif x2.answer.used then (bif (decide (((((((((((((r3 ++ ([32] : List UInt8)) ++ r4) ++ ([32] : List UInt8)) ++ r5) ++ ([32] : List UInt8)) ++ r6) ++ ([32] : List UInt8)) ++ r7) ++ ([32] : List UInt8)) ++ r8) ++ ([32] : List UInt8)) ++ r9).length + ([32, 121, 101, 115, 32, 97, 100, 100, 114, 115] : List UInt8).length ≤ 1152921504606846976)) then k1 s0 s4 s5 (((((((((((((r3 ++ ([32] : List UInt8)) ++ r4) ++ ([32] : List UInt8)) ++ r5) ++ ([32] : List UInt8)) ++ r6) ++ ([32] : List UInt8)) ++ r7) ++ ([32] : List UInt8)) ++ r8) ++ ([32] : List UInt8)) ++ r9) ++ ([32, 121, 101, 115, 32, 97, 100, 100, 114, 115] : List UInt8)) 0 x2.answer else none) else (bif (decide (((((((((((((r3 ++ ([32] : List UInt8)) ++ r4) ++ ([32] : List UInt8)) ++ r5) ++ ([32] : List UInt8)) ++ r6) ++ ([32] : List UInt8)) ++ r7) ++ ([32] : List UInt8)) ++ r8) ++ ([32] : List UInt8)) ++ r9).length + ([32, 110, 111, 32, 97, 100, 100, 114, 115] : List UInt8).length ≤ 1152921504606846976)) then k1 s0 s4 s5 (((((((((((((r3 ++ ([32] : List UInt8)) ++ r4) ++ ([32] : List UInt8)) ++ r5) ++ ([32] : List UInt8)) ++ r6) ++ ([32] : List UInt8)) ++ r7) ++ ([32] : List UInt8)) ++ r8) ++ ([32] : List UInt8)) ++ r9) ++ ([32, 110, 111, 32, 97, 100, 100, 114, 115] : List UInt8)) 0 x2.answer else none)) else none)) else none) else none)) else none) else none)) else none) else none)) else none) else none)) else none) else none)) else none))) else some (s4, 0))
def lodgerref28_Put_s1b (g_lodgerref28_May : (List Event) → Option (Bool)) (g_lodgerref28_dec : Int → Option ((List UInt8))) (g_lodgerref04_Text : Int → Option ((List UInt8))) (k0 : (List Event) → (List UInt8) → Int → Option ((List UInt8) × Int)) (k1 : (List Event) → (List UInt8) → Int → (List UInt8) → Int → Answer → Option ((List UInt8) × Int)) (k2 : (List Event) → (List UInt8) → Int → (List UInt8) → Int → Answer → Option ((List UInt8) × Int)) (s0 : (List Event)) (s4 : (List UInt8)) (s5 : Int) (s8 : (List UInt8)) (s9 : Int) (m1 : Answer) : Option ((List UInt8) × Int) := (bif (decide (s9 < (List.length m1.addrs : Int))) then (bif (decide (s8.length + ([32] : List UInt8).length ≤ 1152921504606846976)) then ((geti m1.addrs s9).bind fun x10 => ((g_lodgerref04_Text x10).bind fun r11 => (bif (decide ((s8 ++ ([32] : List UInt8)).length + r11.length ≤ 1152921504606846976)) then k1 s0 s4 s5 ((s8 ++ ([32] : List UInt8)) ++ r11) (IntKind.wrap .i64 (s9 + 1)) m1 else none))) else none) else (bif (decide (s8.length + ([32, 101, 114, 114, 115] : List UInt8).length ≤ 1152921504606846976)) then k2 s0 s4 s5 (s8 ++ ([32, 101, 114, 114, 115] : List UInt8)) 0 m1 else none))
def lodgerref28_Put_s2b (g_lodgerref28_May : (List Event) → Option (Bool)) (g_lodgerref28_dec : Int → Option ((List UInt8))) (g_lodgerref04_Text : Int → Option ((List UInt8))) (k0 : (List Event) → (List UInt8) → Int → Option ((List UInt8) × Int)) (k1 : (List Event) → (List UInt8) → Int → (List UInt8) → Int → Answer → Option ((List UInt8) × Int)) (k2 : (List Event) → (List UInt8) → Int → (List UInt8) → Int → Answer → Option ((List UInt8) × Int)) (s0 : (List Event)) (s4 : (List UInt8)) (s5 : Int) (s8 : (List UInt8)) (s10 : Int) (m1 : Answer) : Option ((List UInt8) × Int) := (bif (decide (s10 < (List.length m1.errs : Int))) then (bif (decide (s8.length + ([32] : List UInt8).length ≤ 1152921504606846976)) then ((geti m1.errs s10).bind fun x12 => ((g_lodgerref28_dec x12).bind fun r13 => (bif (decide ((s8 ++ ([32] : List UInt8)).length + r13.length ≤ 1152921504606846976)) then k2 s0 s4 s5 ((s8 ++ ([32] : List UInt8)) ++ r13) (IntKind.wrap .i64 (s10 + 1)) m1 else none))) else none) else (bif (decide (s4.length + s8.length ≤ 1152921504606846976)) then (bif (decide ((s4 ++ s8).length + ([10] : List UInt8).length ≤ 1152921504606846976)) then k0 s0 ((s4 ++ s8) ++ ([10] : List UInt8)) (IntKind.wrap .i64 (s5 + 1)) else none) else none))
def lodgerref28_Put_eb (g_lodgerref28_May : (List Event) → Option (Bool)) (g_lodgerref28_dec : Int → Option ((List UInt8))) (g_lodgerref04_Text : Int → Option ((List UInt8))) (k0 : (List Event) → (List UInt8) → Int → Option ((List UInt8) × Int)) (k1 : (List Event) → (List UInt8) → Int → (List UInt8) → Int → Answer → Option ((List UInt8) × Int)) (k2 : (List Event) → (List UInt8) → Int → (List UInt8) → Int → Answer → Option ((List UInt8) × Int)) (a0 : (List Event)) : Option ((List UInt8) × Int) := ((g_lodgerref28_May a0).bind fun r1 => (bif (not r1) then some (([] : List UInt8), 2) else k0 a0 ([] : List UInt8) 0))
def sp_lodgerref28_Put : Spec S := { args := [(Ty.slice (Ty.st 6))], R := (List UInt8) × Int, run := run1 (Ty.slice (Ty.st 6)) lodgerref28_Put, enc := enc2 (S := S) Ty.str i64 }
def spb_lodgerref28_Put (F : (List Event) → Option ((List UInt8) × Int)) : Spec S := { args := [(Ty.slice (Ty.st 6))], R := (List UInt8) × Int, run := run1 (Ty.slice (Ty.st 6)) F, enc := enc2 (S := S) Ty.str i64 }
def usb_lodgerref28_Put (g_lodgerref28_May : (List Event) → Option (Bool)) (g_lodgerref28_dec : Int → Option ((List UInt8))) (g_lodgerref04_Text : Int → Option ((List UInt8))) : List (Nat × Spec S) := [(14, spb_lodgerref28_May g_lodgerref28_May), (20, spb_lodgerref28_dec g_lodgerref28_dec), (21, spb_lodgerref04_Text g_lodgerref04_Text)]
def us_lodgerref28_Put : List (Nat × Spec S) := [(14, sp_lodgerref28_May), (20, sp_lodgerref28_dec), (21, sp_lodgerref04_Text)]
noncomputable def Cb_lodgerref28_Put (g_lodgerref28_May : (List Event) → Option (Bool)) (g_lodgerref28_dec : Int → Option ((List UInt8))) (g_lodgerref04_Text : Int → Option ((List UInt8))) : Ctx S := { P := Tryd.prog, E := E, ty := tyL tab, G := glL gtab, spec := spL (usb_lodgerref28_Put g_lodgerref28_May g_lodgerref28_dec g_lodgerref04_Text), inl := inL [] }
noncomputable def C_lodgerref28_Put : Ctx S := Cb_lodgerref28_Put lodgerref28_May lodgerref28_dec lodgerref04_Text
def hd_lodgerref28_Put : List ((Nat × Nat) × List Hs) := [((2, 5), [.canon 0 [] [0, 4, 5], .plain 0 (Ty.slice (Ty.st 6)), .plain 4 Ty.str, .plain 5 i64]), ((7, 14), [.canon 2 [1] [0, 4, 5, 7, 8, 9], .plain 0 (Ty.slice (Ty.st 6)), .plain 4 Ty.str, .plain 5 i64, .plain 8 Ty.str, .plain 9 i64, .plainB 1 0 (Ty.st 3)]), ((7, 19), [.canon 2 [1] [0, 4, 5, 7, 8, 10], .plain 0 (Ty.slice (Ty.st 6)), .plain 4 Ty.str, .plain 5 i64, .plain 8 Ty.str, .plain 10 i64, .plainB 1 0 (Ty.st 3)])]
def h0_lodgerref28_Put (s0 : (List Event)) (s4 : (List UInt8)) (s5 : Int) : St S := { tmps := [.cell (Ty.slice (Ty.st 6)) s0, .undef, .undef, .undef, .cell Ty.str s4, .cell i64 s5, .undef, .undef, .undef, .undef, .undef, .undef, .undef, .undef, .undef, .undef, .undef, .undef, .undef, .undef, .undef, .undef, .undef, .undef, .undef, .undef, .undef, .undef, .undef, .undef, .undef, .undef, .undef, .undef, .undef, .undef, .undef, .undef, .undef, .undef, .undef, .undef, .undef, .undef, .undef, .undef, .undef, .undef, .undef, .undef, .undef, .undef, .undef, .undef, .undef, .undef, .undef, .undef, .undef, .undef, .undef, .undef, .undef, .undef, .undef, .undef, .undef, .undef, .undef, .undef, .undef, .undef, .undef, .undef, .undef, .undef, .undef, .undef, .undef, .undef, .undef, .undef, .undef, .undef, .undef, .undef, .undef, .undef, .undef, .undef, .undef, .undef, .undef, .undef, .undef, .undef, .undef, .undef, .undef, .undef, .undef, .undef, .undef, .undef], mem := [] }
def h1_lodgerref28_Put (s0 : (List Event)) (s4 : (List UInt8)) (s5 : Int) (s8 : (List UInt8)) (s9 : Int) (m1 : Answer) : St S := { tmps := [.cell (Ty.slice (Ty.st 6)) s0, .undef, .undef, .undef, .cell Ty.str s4, .cell i64 s5, .undef, .ptr 1 0, .cell Ty.str s8, .cell i64 s9, .undef, .undef, .undef, .undef, .undef, .undef, .undef, .undef, .undef, .undef, .undef, .undef, .undef, .undef, .undef, .undef, .undef, .undef, .undef, .undef, .undef, .undef, .undef, .undef, .undef, .undef, .undef, .undef, .undef, .undef, .undef, .undef, .undef, .undef, .undef, .undef, .undef, .undef, .undef, .undef, .undef, .undef, .undef, .undef, .undef, .undef, .undef, .undef, .undef, .undef, .undef, .undef, .undef, .undef, .undef, .undef, .undef, .undef, .undef, .undef, .undef, .undef, .undef, .undef, .undef, .undef, .undef, .undef, .undef, .undef, .undef, .undef, .undef, .undef, .undef, .undef, .undef, .undef, .undef, .undef, .undef, .undef, .undef, .undef, .undef, .undef, .undef, .undef, .undef, .undef, .undef, .undef, .undef, .undef], mem := [.box [.undef, .undef, .undef, .undef, .undef, .undef, .undef, .undef, .undef, .undef] false, .box [.cell i64 m1.err, .cell u32 m1.addr, .cell Ty.bool m1.used, .cell (Ty.slice u32) m1.addrs, .cell (Ty.slice i64) m1.errs] false] }
def h2_lodgerref28_Put (s0 : (List Event)) (s4 : (List UInt8)) (s5 : Int) (s8 : (List UInt8)) (s10 : Int) (m1 : Answer) : St S := { tmps := [.cell (Ty.slice (Ty.st 6)) s0, .undef, .undef, .undef, .cell Ty.str s4, .cell i64 s5, .undef, .ptr 1 0, .cell Ty.str s8, .undef, .cell i64 s10, .undef, .undef, .undef, .undef, .undef, .undef, .undef, .undef, .undef, .undef, .undef, .undef, .undef, .undef, .undef, .undef, .undef, .undef, .undef, .undef, .undef, .undef, .undef, .undef, .undef, .undef, .undef, .undef, .undef, .undef, .undef, .undef, .undef, .undef, .undef, .undef, .undef, .undef, .undef, .undef, .undef, .undef, .undef, .undef, .undef, .undef, .undef, .undef, .undef, .undef, .undef, .undef, .undef, .undef, .undef, .undef, .undef, .undef, .undef, .undef, .undef, .undef, .undef, .undef, .undef, .undef, .undef, .undef, .undef, .undef, .undef, .undef, .undef, .undef, .undef, .undef, .undef, .undef, .undef, .undef, .undef, .undef, .undef, .undef, .undef, .undef, .undef, .undef, .undef, .undef, .undef, .undef, .undef], mem := [.box [.undef, .undef, .undef, .undef, .undef, .undef, .undef, .undef, .undef, .undef] false, .box [.cell i64 m1.err, .cell u32 m1.addr, .cell Ty.bool m1.used, .cell (Ty.slice u32) m1.addrs, .cell (Ty.slice i64) m1.errs] false] }
theorem rdb0_lodgerref28_Put (g_lodgerref28_May : (List Event) → Option (Bool)) (g_lodgerref28_dec : Int → Option ((List UInt8))) (g_lodgerref04_Text : Int → Option ((List UInt8))) (L : Lp S ((List UInt8) × Int)) (s0 : (List Event)) (s4 : (List UInt8)) (s5 : Int) : (roundWF (Cb_lodgerref28_Put g_lodgerref28_May g_lodgerref28_dec g_lodgerref04_Text) (clDF (Cb_lodgerref28_Put g_lodgerref28_May g_lodgerref28_dec g_lodgerref04_Text) 0) (hdOf (Cb_lodgerref28_Put g_lodgerref28_May g_lodgerref28_dec g_lodgerref04_Text) hd_lodgerref28_Put) 10 0 [Ty.str, i64] (res2 Ty.str i64) L (h0_lodgerref28_Put s0 s4 s5)).opt = lodgerref28_Put_s0b g_lodgerref28_May g_lodgerref28_dec g_lodgerref04_Text (fun s0 s4 s5 => (L (todoOf (Cb_lodgerref28_Put g_lodgerref28_May g_lodgerref28_dec g_lodgerref04_Text) 10 0) (h0_lodgerref28_Put s0 s4 s5)).opt) (fun s0 s4 s5 s8 s9 m1 => (L (todoOf (Cb_lodgerref28_Put g_lodgerref28_May g_lodgerref28_dec g_lodgerref04_Text) 10 1) (h1_lodgerref28_Put s0 s4 s5 s8 s9 m1)).opt) (fun s0 s4 s5 s8 s10 m1 => (L (todoOf (Cb_lodgerref28_Put g_lodgerref28_May g_lodgerref28_dec g_lodgerref04_Text) 10 2) (h2_lodgerref28_Put s0 s4 s5 s8 s10 m1)).opt) s0 s4 s5 := by kernel_rfl
theorem rd0_lodgerref28_Put (L : Lp S ((List UInt8) × Int)) (s0 : (List Event)) (s4 : (List UInt8)) (s5 : Int) : (roundW C_lodgerref28_Put (clD C_lodgerref28_Put 0) (hdOf C_lodgerref28_Put hd_lodgerref28_Put) 10 0 [Ty.str, i64] (res2 Ty.str i64) L (h0_lodgerref28_Put s0 s4 s5)).opt = lodgerref28_Put_s0 (fun s0 s4 s5 => (L (todoOf C_lodgerref28_Put 10 0) (h0_lodgerref28_Put s0 s4 s5)).opt) (fun s0 s4 s5 s8 s9 m1 => (L (todoOf C_lodgerref28_Put 10 1) (h1_lodgerref28_Put s0 s4 s5 s8 s9 m1)).opt) (fun s0 s4 s5 s8 s10 m1 => (L (todoOf C_lodgerref28_Put 10 2) (h2_lodgerref28_Put s0 s4 s5 s8 s10 m1)).opt) s0 s4 s5 := (congrArg D.opt (roundWF_eq _ _ _ _ _ _ _ L _)).trans (rdb0_lodgerref28_Put lodgerref28_May lodgerref28_dec lodgerref04_Text L s0 s4 s5)
theorem rdb1_lodgerref28_Put (g_lodgerref28_May : (List Event) → Option (Bool)) (g_lodgerref28_dec : Int → Option ((List UInt8))) (g_lodgerref04_Text : Int → Option ((List UInt8))) (L : Lp S ((List UInt8) × Int)) (s0 : (List Event)) (s4 : (List UInt8)) (s5 : Int) (s8 : (List UInt8)) (s9 : Int) (m1 : Answer) : (roundWF (Cb_lodgerref28_Put g_lodgerref28_May g_lodgerref28_dec g_lodgerref04_Text) (clDF (Cb_lodgerref28_Put g_lodgerref28_May g_lodgerref28_dec g_lodgerref04_Text) 0) (hdOf (Cb_lodgerref28_Put g_lodgerref28_May g_lodgerref28_dec g_lodgerref04_Text) hd_lodgerref28_Put) 10 1 [Ty.str, i64] (res2 Ty.str i64) L (h1_lodgerref28_Put s0 s4 s5 s8 s9 m1)).opt = lodgerref28_Put_s1b g_lodgerref28_May g_lodgerref28_dec g_lodgerref04_Text (fun s0 s4 s5 => (L (todoOf (Cb_lodgerref28_Put g_lodgerref28_May g_lodgerref28_dec g_lodgerref04_Text) 10 0) (h0_lodgerref28_Put s0 s4 s5)).opt) (fun s0 s4 s5 s8 s9 m1 => (L (todoOf (Cb_lodgerref28_Put g_lodgerref28_May g_lodgerref28_dec g_lodgerref04_Text) 10 1) (h1_lodgerref28_Put s0 s4 s5 s8 s9 m1)).opt) (fun s0 s4 s5 s8 s10 m1 => (L (todoOf (Cb_lodgerref28_Put g_lodgerref28_May g_lodgerref28_dec g_lodgerref04_Text) 10 2) (h2_lodgerref28_Put s0 s4 s5 s8 s10 m1)).opt) s0 s4 s5 s8 s9 m1 := by kernel_rfl
theorem rd1_lodgerref28_Put (L : Lp S ((List UInt8) × Int)) (s0 : (List Event)) (s4 : (List UInt8)) (s5 : Int) (s8 : (List UInt8)) (s9 : Int) (m1 : Answer) : (roundW C_lodgerref28_Put (clD C_lodgerref28_Put 0) (hdOf C_lodgerref28_Put hd_lodgerref28_Put) 10 1 [Ty.str, i64] (res2 Ty.str i64) L (h1_lodgerref28_Put s0 s4 s5 s8 s9 m1)).opt = lodgerref28_Put_s1 (fun s0 s4 s5 => (L (todoOf C_lodgerref28_Put 10 0) (h0_lodgerref28_Put s0 s4 s5)).opt) (fun s0 s4 s5 s8 s9 m1 => (L (todoOf C_lodgerref28_Put 10 1) (h1_lodgerref28_Put s0 s4 s5 s8 s9 m1)).opt) (fun s0 s4 s5 s8 s10 m1 => (L (todoOf C_lodgerref28_Put 10 2) (h2_lodgerref28_Put s0 s4 s5 s8 s10 m1)).opt) s0 s4 s5 s8 s9 m1 := (congrArg D.opt (roundWF_eq _ _ _ _ _ _ _ L _)).trans (rdb1_lodgerref28_Put lodgerref28_May lodgerref28_dec lodgerref04_Text L s0 s4 s5 s8 s9 m1)
theorem rdb2_lodgerref28_Put (g_lodgerref28_May : (List Event) → Option (Bool)) (g_lodgerref28_dec : Int → Option ((List UInt8))) (g_lodgerref04_Text : Int → Option ((List UInt8))) (L : Lp S ((List UInt8) × Int)) (s0 : (List Event)) (s4 : (List UInt8)) (s5 : Int) (s8 : (List UInt8)) (s10 : Int) (m1 : Answer) : (roundWF (Cb_lodgerref28_Put g_lodgerref28_May g_lodgerref28_dec g_lodgerref04_Text) (clDF (Cb_lodgerref28_Put g_lodgerref28_May g_lodgerref28_dec g_lodgerref04_Text) 0) (hdOf (Cb_lodgerref28_Put g_lodgerref28_May g_lodgerref28_dec g_lodgerref04_Text) hd_lodgerref28_Put) 10 2 [Ty.str, i64] (res2 Ty.str i64) L (h2_lodgerref28_Put s0 s4 s5 s8 s10 m1)).opt = lodgerref28_Put_s2b g_lodgerref28_May g_lodgerref28_dec g_lodgerref04_Text (fun s0 s4 s5 => (L (todoOf (Cb_lodgerref28_Put g_lodgerref28_May g_lodgerref28_dec g_lodgerref04_Text) 10 0) (h0_lodgerref28_Put s0 s4 s5)).opt) (fun s0 s4 s5 s8 s9 m1 => (L (todoOf (Cb_lodgerref28_Put g_lodgerref28_May g_lodgerref28_dec g_lodgerref04_Text) 10 1) (h1_lodgerref28_Put s0 s4 s5 s8 s9 m1)).opt) (fun s0 s4 s5 s8 s10 m1 => (L (todoOf (Cb_lodgerref28_Put g_lodgerref28_May g_lodgerref28_dec g_lodgerref04_Text) 10 2) (h2_lodgerref28_Put s0 s4 s5 s8 s10 m1)).opt) s0 s4 s5 s8 s10 m1 := by kernel_rfl
theorem rd2_lodgerref28_Put (L : Lp S ((List UInt8) × Int)) (s0 : (List Event)) (s4 : (List UInt8)) (s5 : Int) (s8 : (List UInt8)) (s10 : Int) (m1 : Answer) : (roundW C_lodgerref28_Put (clD C_lodgerref28_Put 0) (hdOf C_lodgerref28_Put hd_lodgerref28_Put) 10 2 [Ty.str, i64] (res2 Ty.str i64) L (h2_lodgerref28_Put s0 s4 s5 s8 s10 m1)).opt = lodgerref28_Put_s2 (fun s0 s4 s5 => (L (todoOf C_lodgerref28_Put 10 0) (h0_lodgerref28_Put s0 s4 s5)).opt) (fun s0 s4 s5 s8 s9 m1 => (L (todoOf C_lodgerref28_Put 10 1) (h1_lodgerref28_Put s0 s4 s5 s8 s9 m1)).opt) (fun s0 s4 s5 s8 s10 m1 => (L (todoOf C_lodgerref28_Put 10 2) (h2_lodgerref28_Put s0 s4 s5 s8 s10 m1)).opt) s0 s4 s5 s8 s10 m1 := (congrArg D.opt (roundWF_eq _ _ _ _ _ _ _ L _)).trans (rdb2_lodgerref28_Put lodgerref28_May lodgerref28_dec lodgerref04_Text L s0 s4 s5 s8 s10 m1)
theorem enb_lodgerref28_Put (g_lodgerref28_May : (List Event) → Option (Bool)) (g_lodgerref28_dec : Int → Option ((List UInt8))) (g_lodgerref04_Text : Int → Option ((List UInt8))) (L : Lp S ((List UInt8) × Int)) (a0 : (List Event)) : (runWF (Cb_lodgerref28_Put g_lodgerref28_May g_lodgerref28_dec g_lodgerref04_Text) (clDF (Cb_lodgerref28_Put g_lodgerref28_May g_lodgerref28_dec g_lodgerref04_Text) 0) (fun _ => canonL (hdOf (Cb_lodgerref28_Put g_lodgerref28_May g_lodgerref28_dec g_lodgerref04_Text) hd_lodgerref28_Put) L) 10 [Ty.str, i64] (res2 Ty.str i64) [encV E (Ty.slice (Ty.st 6)) a0]).opt = lodgerref28_Put_eb g_lodgerref28_May g_lodgerref28_dec g_lodgerref04_Text (fun s0 s4 s5 => (L (todoOf (Cb_lodgerref28_Put g_lodgerref28_May g_lodgerref28_dec g_lodgerref04_Text) 10 0) (h0_lodgerref28_Put s0 s4 s5)).opt) (fun s0 s4 s5 s8 s9 m1 => (L (todoOf (Cb_lodgerref28_Put g_lodgerref28_May g_lodgerref28_dec g_lodgerref04_Text) 10 1) (h1_lodgerref28_Put s0 s4 s5 s8 s9 m1)).opt) (fun s0 s4 s5 s8 s10 m1 => (L (todoOf (Cb_lodgerref28_Put g_lodgerref28_May g_lodgerref28_dec g_lodgerref04_Text) 10 2) (h2_lodgerref28_Put s0 s4 s5 s8 s10 m1)).opt) a0 := by kernel_rfl
theorem en_lodgerref28_Put (L : Lp S ((List UInt8) × Int)) (a0 : (List Event)) : (runW C_lodgerref28_Put (clD C_lodgerref28_Put 0) (fun _ => canonL (hdOf C_lodgerref28_Put hd_lodgerref28_Put) L) 10 [Ty.str, i64] (res2 Ty.str i64) [encV E (Ty.slice (Ty.st 6)) a0]).opt = lodgerref28_Put_e (fun s0 s4 s5 => (L (todoOf C_lodgerref28_Put 10 0) (h0_lodgerref28_Put s0 s4 s5)).opt) (fun s0 s4 s5 s8 s9 m1 => (L (todoOf C_lodgerref28_Put 10 1) (h1_lodgerref28_Put s0 s4 s5 s8 s9 m1)).opt) (fun s0 s4 s5 s8 s10 m1 => (L (todoOf C_lodgerref28_Put 10 2) (h2_lodgerref28_Put s0 s4 s5 s8 s10 m1)).opt) a0 := (congrArg D.opt (runWF_eq _ _ _ _ _ _ _)).trans (enb_lodgerref28_Put lodgerref28_May lodgerref28_dec lodgerref04_Text L a0)
theorem fx_lodgerref28_Put : ∀ n, (∀ (s0 : (List Event)) (s4 : (List UInt8)) (s5 : Int), (Lfix C_lodgerref28_Put (clD C_lodgerref28_Put 0) (hdOf C_lodgerref28_Put hd_lodgerref28_Put) (finW C_lodgerref28_Put 10 [Ty.str, i64] (res2 Ty.str i64)) n (todoOf C_lodgerref28_Put 10 0) (h0_lodgerref28_Put s0 s4 s5)).opt = lodgerref28_Put_l0 n s0 s4 s5) ∧ (∀ (s0 : (List Event)) (s4 : (List UInt8)) (s5 : Int) (s8 : (List UInt8)) (s9 : Int) (m1 : Answer), (Lfix C_lodgerref28_Put (clD C_lodgerref28_Put 0) (hdOf C_lodgerref28_Put hd_lodgerref28_Put) (finW C_lodgerref28_Put 10 [Ty.str, i64] (res2 Ty.str i64)) n (todoOf C_lodgerref28_Put 10 1) (h1_lodgerref28_Put s0 s4 s5 s8 s9 m1)).opt = lodgerref28_Put_l1 n s0 s4 s5 s8 s9 m1) ∧ (∀ (s0 : (List Event)) (s4 : (List UInt8)) (s5 : Int) (s8 : (List UInt8)) (s10 : Int) (m1 : Answer), (Lfix C_lodgerref28_Put (clD C_lodgerref28_Put 0) (hdOf C_lodgerref28_Put hd_lodgerref28_Put) (finW C_lodgerref28_Put 10 [Ty.str, i64] (res2 Ty.str i64)) n (todoOf C_lodgerref28_Put 10 2) (h2_lodgerref28_Put s0 s4 s5 s8 s10 m1)).opt = lodgerref28_Put_l2 n s0 s4 s5 s8 s10 m1)
  | 0 => ⟨fun _ _ _ => rfl, fun _ _ _ _ _ _ => rfl, fun _ _ _ _ _ _ => rfl⟩
  | n + 1 => by
    have ih := fx_lodgerref28_Put n
    have e0 : (fun s0 s4 s5 => (Lfix C_lodgerref28_Put (clD C_lodgerref28_Put 0) (hdOf C_lodgerref28_Put hd_lodgerref28_Put) (finW C_lodgerref28_Put 10 [Ty.str, i64] (res2 Ty.str i64)) n (todoOf C_lodgerref28_Put 10 0) (h0_lodgerref28_Put s0 s4 s5)).opt) = lodgerref28_Put_l0 n := funext fun s0 => funext fun s4 => funext fun s5 => ih.1 s0 s4 s5
    have e1 : (fun s0 s4 s5 s8 s9 m1 => (Lfix C_lodgerref28_Put (clD C_lodgerref28_Put 0) (hdOf C_lodgerref28_Put hd_lodgerref28_Put) (finW C_lodgerref28_Put 10 [Ty.str, i64] (res2 Ty.str i64)) n (todoOf C_lodgerref28_Put 10 1) (h1_lodgerref28_Put s0 s4 s5 s8 s9 m1)).opt) = lodgerref28_Put_l1 n := funext fun s0 => funext fun s4 => funext fun s5 => funext fun s8 => funext fun s9 => funext fun m1 => ih.2.1 s0 s4 s5 s8 s9 m1
    have e2 : (fun s0 s4 s5 s8 s10 m1 => (Lfix C_lodgerref28_Put (clD C_lodgerref28_Put 0) (hdOf C_lodgerref28_Put hd_lodgerref28_Put) (finW C_lodgerref28_Put 10 [Ty.str, i64] (res2 Ty.str i64)) n (todoOf C_lodgerref28_Put 10 2) (h2_lodgerref28_Put s0 s4 s5 s8 s10 m1)).opt) = lodgerref28_Put_l2 n := funext fun s0 => funext fun s4 => funext fun s5 => funext fun s8 => funext fun s10 => funext fun m1 => ih.2.2 s0 s4 s5 s8 s10 m1
    exact ⟨fun s0 s4 s5 => (congrArg D.opt (Lfix_round C_lodgerref28_Put (clD C_lodgerref28_Put 0) (hdOf C_lodgerref28_Put hd_lodgerref28_Put) 10 0 [Ty.str, i64] (res2 Ty.str i64) n _)).trans ((rd0_lodgerref28_Put (Lfix C_lodgerref28_Put (clD C_lodgerref28_Put 0) (hdOf C_lodgerref28_Put hd_lodgerref28_Put) (finW C_lodgerref28_Put 10 [Ty.str, i64] (res2 Ty.str i64)) n) s0 s4 s5).trans ((congrArg (fun x => lodgerref28_Put_s0  x (fun s0 s4 s5 s8 s9 m1 => (Lfix C_lodgerref28_Put (clD C_lodgerref28_Put 0) (hdOf C_lodgerref28_Put hd_lodgerref28_Put) (finW C_lodgerref28_Put 10 [Ty.str, i64] (res2 Ty.str i64)) n (todoOf C_lodgerref28_Put 10 1) (h1_lodgerref28_Put s0 s4 s5 s8 s9 m1)).opt) (fun s0 s4 s5 s8 s10 m1 => (Lfix C_lodgerref28_Put (clD C_lodgerref28_Put 0) (hdOf C_lodgerref28_Put hd_lodgerref28_Put) (finW C_lodgerref28_Put 10 [Ty.str, i64] (res2 Ty.str i64)) n (todoOf C_lodgerref28_Put 10 2) (h2_lodgerref28_Put s0 s4 s5 s8 s10 m1)).opt) s0 s4 s5) e0).trans ((congrArg (fun x => lodgerref28_Put_s0 (lodgerref28_Put_l0 n) x (fun s0 s4 s5 s8 s10 m1 => (Lfix C_lodgerref28_Put (clD C_lodgerref28_Put 0) (hdOf C_lodgerref28_Put hd_lodgerref28_Put) (finW C_lodgerref28_Put 10 [Ty.str, i64] (res2 Ty.str i64)) n (todoOf C_lodgerref28_Put 10 2) (h2_lodgerref28_Put s0 s4 s5 s8 s10 m1)).opt) s0 s4 s5) e1).trans (congrArg (fun x => lodgerref28_Put_s0 (lodgerref28_Put_l0 n) (lodgerref28_Put_l1 n) x  s0 s4 s5) e2)))), fun s0 s4 s5 s8 s9 m1 => (congrArg D.opt (Lfix_round C_lodgerref28_Put (clD C_lodgerref28_Put 0) (hdOf C_lodgerref28_Put hd_lodgerref28_Put) 10 1 [Ty.str, i64] (res2 Ty.str i64) n _)).trans ((rd1_lodgerref28_Put (Lfix C_lodgerref28_Put (clD C_lodgerref28_Put 0) (hdOf C_lodgerref28_Put hd_lodgerref28_Put) (finW C_lodgerref28_Put 10 [Ty.str, i64] (res2 Ty.str i64)) n) s0 s4 s5 s8 s9 m1).trans ((congrArg (fun x => lodgerref28_Put_s1  x (fun s0 s4 s5 s8 s9 m1 => (Lfix C_lodgerref28_Put (clD C_lodgerref28_Put 0) (hdOf C_lodgerref28_Put hd_lodgerref28_Put) (finW C_lodgerref28_Put 10 [Ty.str, i64] (res2 Ty.str i64)) n (todoOf C_lodgerref28_Put 10 1) (h1_lodgerref28_Put s0 s4 s5 s8 s9 m1)).opt) (fun s0 s4 s5 s8 s10 m1 => (Lfix C_lodgerref28_Put (clD C_lodgerref28_Put 0) (hdOf C_lodgerref28_Put hd_lodgerref28_Put) (finW C_lodgerref28_Put 10 [Ty.str, i64] (res2 Ty.str i64)) n (todoOf C_lodgerref28_Put 10 2) (h2_lodgerref28_Put s0 s4 s5 s8 s10 m1)).opt) s0 s4 s5 s8 s9 m1) e0).trans ((congrArg (fun x => lodgerref28_Put_s1 (lodgerref28_Put_l0 n) x (fun s0 s4 s5 s8 s10 m1 => (Lfix C_lodgerref28_Put (clD C_lodgerref28_Put 0) (hdOf C_lodgerref28_Put hd_lodgerref28_Put) (finW C_lodgerref28_Put 10 [Ty.str, i64] (res2 Ty.str i64)) n (todoOf C_lodgerref28_Put 10 2) (h2_lodgerref28_Put s0 s4 s5 s8 s10 m1)).opt) s0 s4 s5 s8 s9 m1) e1).trans (congrArg (fun x => lodgerref28_Put_s1 (lodgerref28_Put_l0 n) (lodgerref28_Put_l1 n) x  s0 s4 s5 s8 s9 m1) e2)))), fun s0 s4 s5 s8 s10 m1 => (congrArg D.opt (Lfix_round C_lodgerref28_Put (clD C_lodgerref28_Put 0) (hdOf C_lodgerref28_Put hd_lodgerref28_Put) 10 2 [Ty.str, i64] (res2 Ty.str i64) n _)).trans ((rd2_lodgerref28_Put (Lfix C_lodgerref28_Put (clD C_lodgerref28_Put 0) (hdOf C_lodgerref28_Put hd_lodgerref28_Put) (finW C_lodgerref28_Put 10 [Ty.str, i64] (res2 Ty.str i64)) n) s0 s4 s5 s8 s10 m1).trans ((congrArg (fun x => lodgerref28_Put_s2  x (fun s0 s4 s5 s8 s9 m1 => (Lfix C_lodgerref28_Put (clD C_lodgerref28_Put 0) (hdOf C_lodgerref28_Put hd_lodgerref28_Put) (finW C_lodgerref28_Put 10 [Ty.str, i64] (res2 Ty.str i64)) n (todoOf C_lodgerref28_Put 10 1) (h1_lodgerref28_Put s0 s4 s5 s8 s9 m1)).opt) (fun s0 s4 s5 s8 s10 m1 => (Lfix C_lodgerref28_Put (clD C_lodgerref28_Put 0) (hdOf C_lodgerref28_Put hd_lodgerref28_Put) (finW C_lodgerref28_Put 10 [Ty.str, i64] (res2 Ty.str i64)) n (todoOf C_lodgerref28_Put 10 2) (h2_lodgerref28_Put s0 s4 s5 s8 s10 m1)).opt) s0 s4 s5 s8 s10 m1) e0).trans ((congrArg (fun x => lodgerref28_Put_s2 (lodgerref28_Put_l0 n) x (fun s0 s4 s5 s8 s10 m1 => (Lfix C_lodgerref28_Put (clD C_lodgerref28_Put 0) (hdOf C_lodgerref28_Put hd_lodgerref28_Put) (finW C_lodgerref28_Put 10 [Ty.str, i64] (res2 Ty.str i64)) n (todoOf C_lodgerref28_Put 10 2) (h2_lodgerref28_Put s0 s4 s5 s8 s10 m1)).opt) s0 s4 s5 s8 s10 m1) e1).trans (congrArg (fun x => lodgerref28_Put_s2 (lodgerref28_Put_l0 n) (lodgerref28_Put_l1 n) x  s0 s4 s5 s8 s10 m1) e2))))⟩
theorem ev_lodgerref28_Put (n : Nat) (a0 : (List Event)) : (runF C_lodgerref28_Put (clD C_lodgerref28_Put 0) (hdOf C_lodgerref28_Put hd_lodgerref28_Put) 10 [Ty.str, i64] (res2 Ty.str i64) n [encV E (Ty.slice (Ty.st 6)) a0]).opt = lodgerref28_Put_n n a0 := by
  have ih := fx_lodgerref28_Put n
  have e0 : (fun s0 s4 s5 => (Lfix C_lodgerref28_Put (clD C_lodgerref28_Put 0) (hdOf C_lodgerref28_Put hd_lodgerref28_Put) (finW C_lodgerref28_Put 10 [Ty.str, i64] (res2 Ty.str i64)) n (todoOf C_lodgerref28_Put 10 0) (h0_lodgerref28_Put s0 s4 s5)).opt) = lodgerref28_Put_l0 n := funext fun s0 => funext fun s4 => funext fun s5 => ih.1 s0 s4 s5
  have e1 : (fun s0 s4 s5 s8 s9 m1 => (Lfix C_lodgerref28_Put (clD C_lodgerref28_Put 0) (hdOf C_lodgerref28_Put hd_lodgerref28_Put) (finW C_lodgerref28_Put 10 [Ty.str, i64] (res2 Ty.str i64)) n (todoOf C_lodgerref28_Put 10 1) (h1_lodgerref28_Put s0 s4 s5 s8 s9 m1)).opt) = lodgerref28_Put_l1 n := funext fun s0 => funext fun s4 => funext fun s5 => funext fun s8 => funext fun s9 => funext fun m1 => ih.2.1 s0 s4 s5 s8 s9 m1
  have e2 : (fun s0 s4 s5 s8 s10 m1 => (Lfix C_lodgerref28_Put (clD C_lodgerref28_Put 0) (hdOf C_lodgerref28_Put hd_lodgerref28_Put) (finW C_lodgerref28_Put 10 [Ty.str, i64] (res2 Ty.str i64)) n (todoOf C_lodgerref28_Put 10 2) (h2_lodgerref28_Put s0 s4 s5 s8 s10 m1)).opt) = lodgerref28_Put_l2 n := funext fun s0 => funext fun s4 => funext fun s5 => funext fun s8 => funext fun s10 => funext fun m1 => ih.2.2 s0 s4 s5 s8 s10 m1
  exact (congrArg D.opt (runF_eq C_lodgerref28_Put (clD C_lodgerref28_Put 0) (hdOf C_lodgerref28_Put hd_lodgerref28_Put) 10 [Ty.str, i64] (res2 Ty.str i64) n _)).trans ((en_lodgerref28_Put (Lfix C_lodgerref28_Put (clD C_lodgerref28_Put 0) (hdOf C_lodgerref28_Put hd_lodgerref28_Put) (finW C_lodgerref28_Put 10 [Ty.str, i64] (res2 Ty.str i64)) n) a0).trans ((congrArg (fun x => lodgerref28_Put_e  x (fun s0 s4 s5 s8 s9 m1 => (Lfix C_lodgerref28_Put (clD C_lodgerref28_Put 0) (hdOf C_lodgerref28_Put hd_lodgerref28_Put) (finW C_lodgerref28_Put 10 [Ty.str, i64] (res2 Ty.str i64)) n (todoOf C_lodgerref28_Put 10 1) (h1_lodgerref28_Put s0 s4 s5 s8 s9 m1)).opt) (fun s0 s4 s5 s8 s10 m1 => (Lfix C_lodgerref28_Put (clD C_lodgerref28_Put 0) (hdOf C_lodgerref28_Put hd_lodgerref28_Put) (finW C_lodgerref28_Put 10 [Ty.str, i64] (res2 Ty.str i64)) n (todoOf C_lodgerref28_Put 10 2) (h2_lodgerref28_Put s0 s4 s5 s8 s10 m1)).opt) a0) e0).trans ((congrArg (fun x => lodgerref28_Put_e (lodgerref28_Put_l0 n) x (fun s0 s4 s5 s8 s10 m1 => (Lfix C_lodgerref28_Put (clD C_lodgerref28_Put 0) (hdOf C_lodgerref28_Put hd_lodgerref28_Put) (finW C_lodgerref28_Put 10 [Ty.str, i64] (res2 Ty.str i64)) n (todoOf C_lodgerref28_Put 10 2) (h2_lodgerref28_Put s0 s4 s5 s8 s10 m1)).opt) a0) e1).trans (congrArg (fun x => lodgerref28_Put_e (lodgerref28_Put_l0 n) (lodgerref28_Put_l1 n) x  a0) e2))))
theorem ok_lodgerref28_Put : SpecOK C_lodgerref28_Put 10 sp_lodgerref28_Put := by
  have hS := specs_ok (C := C_lodgerref28_Put) (l := us_lodgerref28_Put) rfl ⟨ok_lodgerref28_May.re rfl rfl rfl, ok_lodgerref28_dec.re rfl rfl rfl, ok_lodgerref04_Text.re rfl rfl rfl, trivial⟩
  refine spec_ok (C := C_lodgerref28_Put) (cl := (clD C_lodgerref28_Put 0)) (hd := (hdOf C_lodgerref28_Put hd_lodgerref28_Put)) envOK (tyOK_of (l := tab) rfl tabT) hS (clD_ok envOK (tyOK_of (l := tab) rfl tabT) hS mixed (inl_ok (l := []) rfl (by kernel_rfl)) _) mixed (hdOf_ok envOK hd_lodgerref28_Put) (by kernel_rfl) [Ty.str, i64] (res2 Ty.str i64) (de2 (S := S) Ty.str i64) fun cs r h => ?_
  obtain ⟨a0, rfl, h⟩ := inv1 h
  exact ⟨big, (ev_lodgerref28_Put big a0).trans ((def_lodgerref28_Put a0).symm.trans h)⟩
-- lodger/lodgerref28.words
def lodgerref28_words_s0b  (k0 : (List UInt8) → Int → Int → (List (List UInt8)) → Option ((List (List UInt8)))) (s0 : (List UInt8)) (s4 : Int) (s5 : Int) (m0 : (List (List UInt8))) : Option ((List (List UInt8))) := (bif (decide (s5 ≤ (List.length s0 : Int))) then (bif (s5 == (List.length s0 : Int)) then (bif (decide ((0 : Int) ≤ s4 ∧ s4 ≤ s5 ∧ s5 ≤ (s0.length : Int))) then (bif (decide (m0.length + ([((s0.drop (Int.toNat s4)).take (Int.toNat s5 - Int.toNat s4))] : List (List UInt8)).length ≤ maxList)) then k0 s0 (IntKind.wrap .i64 (s5 + 1)) (IntKind.wrap .i64 (s5 + 1)) (m0 ++ ([((s0.drop (Int.toNat s4)).take (Int.toNat s5 - Int.toNat s4))] : List (List UInt8))) else none) else none) else ((geti s0 s5).bind fun b1 => (bif ((b1.toNat : Int) == 32) then (bif (decide ((0 : Int) ≤ s4 ∧ s4 ≤ s5 ∧ s5 ≤ (s0.length : Int))) then (bif (decide (m0.length + ([((s0.drop (Int.toNat s4)).take (Int.toNat s5 - Int.toNat s4))] : List (List UInt8)).length ≤ maxList)) then k0 s0 (IntKind.wrap .i64 (s5 + 1)) (IntKind.wrap .i64 (s5 + 1)) (m0 ++ ([((s0.drop (Int.toNat s4)).take (Int.toNat s5 - Int.toNat s4))] : List (List UInt8))) else none) else none) else k0 s0 s4 (IntKind.wrap .i64 (s5 + 1)) m0))) else some m0)
def lodgerref28_words_eb  (k0 : (List UInt8) → Int → Int → (List (List UInt8)) → Option ((List (List UInt8)))) (a0 : (List UInt8)) : Option ((List (List UInt8))) := k0 a0 0 0 ([] : (List (List UInt8)))
def sp_lodgerref28_words : Spec S := { args := [Ty.str], R := (List (List UInt8)), run := run1 Ty.str lodgerref28_words, enc := enc1 (S := S) (Ty.slice Ty.str) }
def spb_lodgerref28_words (F : (List UInt8) → Option ((List (List UInt8)))) : Spec S := { args := [Ty.str], R := (List (List UInt8)), run := run1 Ty.str F, enc := enc1 (S := S) (Ty.slice Ty.str) }
def usb_lodgerref28_words  : List (Nat × Spec S) := []
def us_lodgerref28_words : List (Nat × Spec S) := []
noncomputable def Cb_lodgerref28_words  : Ctx S := { P := Tryd.prog, E := E, ty := tyL tab, G := glL gtab, spec := spL (usb_lodgerref28_words ), inl := inL [] }
noncomputable def C_lodgerref28_words : Ctx S := Cb_lodgerref28_words 
def hd_lodgerref28_words : List ((Nat × Nat) × List Hs) := [((2, 4), [.promo 3 9 Ty.str, .canon 1 [0] [0, 3, 4, 5], .plain 0 Ty.str, .plain 4 i64, .plain 5 i64])]
def h0_lodgerref28_words (s0 : (List UInt8)) (s4 : Int) (s5 : Int) (m0 : (List (List UInt8))) : St S := { tmps := [.cell Ty.str s0, .undef, .undef, .own 0 0, .cell i64 s4, .cell i64 s5, .undef, .undef, .undef, .undef, .undef, .undef, .undef, .undef, .undef, .undef, .undef, .undef, .undef, .undef, .undef, .undef, .undef, .undef, .undef, .undef, .undef, .undef, .undef, .undef, .undef, .undef], mem := [.arr 9 Ty.str m0 0 false] }
theorem rdb0_lodgerref28_words  (L : Lp S ((List (List UInt8)))) (s0 : (List UInt8)) (s4 : Int) (s5 : Int) (m0 : (List (List UInt8))) : (roundWF (Cb_lodgerref28_words ) (clDF (Cb_lodgerref28_words ) 0) (hdOf (Cb_lodgerref28_words ) hd_lodgerref28_words) 42 0 [(Ty.slice Ty.str)] (res1 (Ty.slice Ty.str)) L (h0_lodgerref28_words s0 s4 s5 m0)).opt = lodgerref28_words_s0b  (fun s0 s4 s5 m0 => (L (todoOf (Cb_lodgerref28_words ) 42 0) (h0_lodgerref28_words s0 s4 s5 m0)).opt) s0 s4 s5 m0 := by kernel_rfl
theorem rd0_lodgerref28_words (L : Lp S ((List (List UInt8)))) (s0 : (List UInt8)) (s4 : Int) (s5 : Int) (m0 : (List (List UInt8))) : (roundW C_lodgerref28_words (clD C_lodgerref28_words 0) (hdOf C_lodgerref28_words hd_lodgerref28_words) 42 0 [(Ty.slice Ty.str)] (res1 (Ty.slice Ty.str)) L (h0_lodgerref28_words s0 s4 s5 m0)).opt = lodgerref28_words_s0 (fun s0 s4 s5 m0 => (L (todoOf C_lodgerref28_words 42 0) (h0_lodgerref28_words s0 s4 s5 m0)).opt) s0 s4 s5 m0 := (congrArg D.opt (roundWF_eq _ _ _ _ _ _ _ L _)).trans (rdb0_lodgerref28_words  L s0 s4 s5 m0)
theorem enb_lodgerref28_words  (L : Lp S ((List (List UInt8)))) (a0 : (List UInt8)) : (runWF (Cb_lodgerref28_words ) (clDF (Cb_lodgerref28_words ) 0) (fun _ => canonL (hdOf (Cb_lodgerref28_words ) hd_lodgerref28_words) L) 42 [(Ty.slice Ty.str)] (res1 (Ty.slice Ty.str)) [encV E Ty.str a0]).opt = lodgerref28_words_eb  (fun s0 s4 s5 m0 => (L (todoOf (Cb_lodgerref28_words ) 42 0) (h0_lodgerref28_words s0 s4 s5 m0)).opt) a0 := by kernel_rfl
theorem en_lodgerref28_words (L : Lp S ((List (List UInt8)))) (a0 : (List UInt8)) : (runW C_lodgerref28_words (clD C_lodgerref28_words 0) (fun _ => canonL (hdOf C_lodgerref28_words hd_lodgerref28_words) L) 42 [(Ty.slice Ty.str)] (res1 (Ty.slice Ty.str)) [encV E Ty.str a0]).opt = lodgerref28_words_e (fun s0 s4 s5 m0 => (L (todoOf C_lodgerref28_words 42 0) (h0_lodgerref28_words s0 s4 s5 m0)).opt) a0 := (congrArg D.opt (runWF_eq _ _ _ _ _ _ _)).trans (enb_lodgerref28_words  L a0)
theorem fx_lodgerref28_words : ∀ n, (∀ (s0 : (List UInt8)) (s4 : Int) (s5 : Int) (m0 : (List (List UInt8))), (Lfix C_lodgerref28_words (clD C_lodgerref28_words 0) (hdOf C_lodgerref28_words hd_lodgerref28_words) (finW C_lodgerref28_words 42 [(Ty.slice Ty.str)] (res1 (Ty.slice Ty.str))) n (todoOf C_lodgerref28_words 42 0) (h0_lodgerref28_words s0 s4 s5 m0)).opt = lodgerref28_words_l0 n s0 s4 s5 m0)
  | 0 => fun _ _ _ _ => rfl
  | n + 1 => by
    have ih := fx_lodgerref28_words n
    have e0 : (fun s0 s4 s5 m0 => (Lfix C_lodgerref28_words (clD C_lodgerref28_words 0) (hdOf C_lodgerref28_words hd_lodgerref28_words) (finW C_lodgerref28_words 42 [(Ty.slice Ty.str)] (res1 (Ty.slice Ty.str))) n (todoOf C_lodgerref28_words 42 0) (h0_lodgerref28_words s0 s4 s5 m0)).opt) = lodgerref28_words_l0 n := funext fun s0 => funext fun s4 => funext fun s5 => funext fun m0 => ih s0 s4 s5 m0
    exact fun s0 s4 s5 m0 => (congrArg D.opt (Lfix_round C_lodgerref28_words (clD C_lodgerref28_words 0) (hdOf C_lodgerref28_words hd_lodgerref28_words) 42 0 [(Ty.slice Ty.str)] (res1 (Ty.slice Ty.str)) n _)).trans ((rd0_lodgerref28_words (Lfix C_lodgerref28_words (clD C_lodgerref28_words 0) (hdOf C_lodgerref28_words hd_lodgerref28_words) (finW C_lodgerref28_words 42 [(Ty.slice Ty.str)] (res1 (Ty.slice Ty.str))) n) s0 s4 s5 m0).trans (congrArg (fun x => lodgerref28_words_s0  x  s0 s4 s5 m0) e0))
theorem ev_lodgerref28_words (n : Nat) (a0 : (List UInt8)) : (runF C_lodgerref28_words (clD C_lodgerref28_words 0) (hdOf C_lodgerref28_words hd_lodgerref28_words) 42 [(Ty.slice Ty.str)] (res1 (Ty.slice Ty.str)) n [encV E Ty.str a0]).opt = lodgerref28_words_n n a0 := by
  have ih := fx_lodgerref28_words n
  have e0 : (fun s0 s4 s5 m0 => (Lfix C_lodgerref28_words (clD C_lodgerref28_words 0) (hdOf C_lodgerref28_words hd_lodgerref28_words) (finW C_lodgerref28_words 42 [(Ty.slice Ty.str)] (res1 (Ty.slice Ty.str))) n (todoOf C_lodgerref28_words 42 0) (h0_lodgerref28_words s0 s4 s5 m0)).opt) = lodgerref28_words_l0 n := funext fun s0 => funext fun s4 => funext fun s5 => funext fun m0 => ih s0 s4 s5 m0
  exact (congrArg D.opt (runF_eq C_lodgerref28_words (clD C_lodgerref28_words 0) (hdOf C_lodgerref28_words hd_lodgerref28_words) 42 [(Ty.slice Ty.str)] (res1 (Ty.slice Ty.str)) n _)).trans ((en_lodgerref28_words (Lfix C_lodgerref28_words (clD C_lodgerref28_words 0) (hdOf C_lodgerref28_words hd_lodgerref28_words) (finW C_lodgerref28_words 42 [(Ty.slice Ty.str)] (res1 (Ty.slice Ty.str))) n) a0).trans (congrArg (fun x => lodgerref28_words_e  x  a0) e0))
theorem ok_lodgerref28_words : SpecOK C_lodgerref28_words 42 sp_lodgerref28_words := by
  have hS := specs_ok (C := C_lodgerref28_words) (l := us_lodgerref28_words) rfl trivial
  refine spec_ok (C := C_lodgerref28_words) (cl := (clD C_lodgerref28_words 0)) (hd := (hdOf C_lodgerref28_words hd_lodgerref28_words)) envOK (tyOK_of (l := tab) rfl tabT) hS (clD_ok envOK (tyOK_of (l := tab) rfl tabT) hS mixed (inl_ok (l := []) rfl (by kernel_rfl)) _) mixed (hdOf_ok envOK hd_lodgerref28_words) (by kernel_rfl) [(Ty.slice Ty.str)] (res1 (Ty.slice Ty.str)) (de1 (S := S) (Ty.slice Ty.str)) fun cs r h => ?_
  obtain ⟨a0, rfl, h⟩ := inv1 h
  exact ⟨big, (ev_lodgerref28_words big a0).trans ((def_lodgerref28_words a0).symm.trans h)⟩
-- lodger/lodgerref28.num
def lodgerref28_num_s0b  (k0 : (List (List UInt8)) → Int → Int → Int → Option (Int)) (s0 : (List (List UInt8))) (s1 : Int) (s5 : Int) (s6 : Int) : Option (Int) := ((geti s0 s1).bind fun x1 => (bif (decide (s6 < (List.length x1 : Int))) then ((geti s0 s1).bind fun x2 => ((geti x2 s6).bind fun b3 => (bif (decide ((b3.toNat : Int) < 48)) then some 0 else ((geti s0 s1).bind fun x4 => ((geti x4 s6).bind fun b5 => (bif (decide ((b5.toNat : Int) > 57)) then some 0 else ((geti s0 s1).bind fun x6 => ((geti x6 s6).bind fun b7 => k0 s0 s1 (mm false (IntKind.wrap .i64 ((IntKind.wrap .i64 ((IntKind.wrap .i64 (10 * s5)) + (IntKind.wrap .i64 (b7.toNat : Int)))) - 48)) 2199023255552) (IntKind.wrap .i64 (s6 + 1)))))))))) else some s5))
def lodgerref28_num_eb  (k0 : (List (List UInt8)) → Int → Int → Int → Option (Int)) (a0 : (List (List UInt8))) (a1 : Int) : Option (Int) := (bif (decide (a1 ≥ (List.length a0 : Int))) then some 0 else k0 a0 a1 0 0)
def sp_lodgerref28_num : Spec S := { args := [(Ty.slice Ty.str), i64], R := Int, run := run2 (Ty.slice Ty.str) i64 lodgerref28_num, enc := enc1 (S := S) i64 }
def spb_lodgerref28_num (F : (List (List UInt8)) → Int → Option (Int)) : Spec S := { args := [(Ty.slice Ty.str), i64], R := Int, run := run2 (Ty.slice Ty.str) i64 F, enc := enc1 (S := S) i64 }
def usb_lodgerref28_num  : List (Nat × Spec S) := []
def us_lodgerref28_num : List (Nat × Spec S) := []
noncomputable def Cb_lodgerref28_num  : Ctx S := { P := Tryd.prog, E := E, ty := tyL tab, G := glL gtab, spec := spL (usb_lodgerref28_num ), inl := inL [] }
noncomputable def C_lodgerref28_num : Ctx S := Cb_lodgerref28_num 
def hd_lodgerref28_num : List ((Nat × Nat) × List Hs) := [((2, 5), [.canon 0 [] [0, 1, 5, 6], .plain 0 (Ty.slice Ty.str), .plain 1 i64, .plain 5 i64, .plain 6 i64])]
def h0_lodgerref28_num (s0 : (List (List UInt8))) (s1 : Int) (s5 : Int) (s6 : Int) : St S := { tmps := [.cell (Ty.slice Ty.str) s0, .cell i64 s1, .undef, .undef, .undef, .cell i64 s5, .cell i64 s6, .undef, .undef, .undef, .undef, .undef, .undef, .undef, .undef, .undef, .undef, .undef, .undef, .undef, .undef, .undef, .undef, .undef, .undef, .undef, .undef, .undef, .undef, .undef, .undef, .undef, .undef, .undef, .undef, .undef, .undef, .undef, .undef, .undef, .undef, .undef, .undef, .undef, .undef, .undef, .undef, .undef, .undef], mem := [] }
theorem rdb0_lodgerref28_num  (L : Lp S (Int)) (s0 : (List (List UInt8))) (s1 : Int) (s5 : Int) (s6 : Int) : (roundWF (Cb_lodgerref28_num ) (clDF (Cb_lodgerref28_num ) 0) (hdOf (Cb_lodgerref28_num ) hd_lodgerref28_num) 43 0 [i64] (res1 i64) L (h0_lodgerref28_num s0 s1 s5 s6)).opt = lodgerref28_num_s0b  (fun s0 s1 s5 s6 => (L (todoOf (Cb_lodgerref28_num ) 43 0) (h0_lodgerref28_num s0 s1 s5 s6)).opt) s0 s1 s5 s6 := by kernel_rfl
theorem rd0_lodgerref28_num (L : Lp S (Int)) (s0 : (List (List UInt8))) (s1 : Int) (s5 : Int) (s6 : Int) : (roundW C_lodgerref28_num (clD C_lodgerref28_num 0) (hdOf C_lodgerref28_num hd_lodgerref28_num) 43 0 [i64] (res1 i64) L (h0_lodgerref28_num s0 s1 s5 s6)).opt = lodgerref28_num_s0 (fun s0 s1 s5 s6 => (L (todoOf C_lodgerref28_num 43 0) (h0_lodgerref28_num s0 s1 s5 s6)).opt) s0 s1 s5 s6 := (congrArg D.opt (roundWF_eq _ _ _ _ _ _ _ L _)).trans (rdb0_lodgerref28_num  L s0 s1 s5 s6)
theorem enb_lodgerref28_num  (L : Lp S (Int)) (a0 : (List (List UInt8))) (a1 : Int) : (runWF (Cb_lodgerref28_num ) (clDF (Cb_lodgerref28_num ) 0) (fun _ => canonL (hdOf (Cb_lodgerref28_num ) hd_lodgerref28_num) L) 43 [i64] (res1 i64) [encV E (Ty.slice Ty.str) a0, encV E i64 a1]).opt = lodgerref28_num_eb  (fun s0 s1 s5 s6 => (L (todoOf (Cb_lodgerref28_num ) 43 0) (h0_lodgerref28_num s0 s1 s5 s6)).opt) a0 a1 := by kernel_rfl
theorem en_lodgerref28_num (L : Lp S (Int)) (a0 : (List (List UInt8))) (a1 : Int) : (runW C_lodgerref28_num (clD C_lodgerref28_num 0) (fun _ => canonL (hdOf C_lodgerref28_num hd_lodgerref28_num) L) 43 [i64] (res1 i64) [encV E (Ty.slice Ty.str) a0, encV E i64 a1]).opt = lodgerref28_num_e (fun s0 s1 s5 s6 => (L (todoOf C_lodgerref28_num 43 0) (h0_lodgerref28_num s0 s1 s5 s6)).opt) a0 a1 := (congrArg D.opt (runWF_eq _ _ _ _ _ _ _)).trans (enb_lodgerref28_num  L a0 a1)
theorem fx_lodgerref28_num : ∀ n, (∀ (s0 : (List (List UInt8))) (s1 : Int) (s5 : Int) (s6 : Int), (Lfix C_lodgerref28_num (clD C_lodgerref28_num 0) (hdOf C_lodgerref28_num hd_lodgerref28_num) (finW C_lodgerref28_num 43 [i64] (res1 i64)) n (todoOf C_lodgerref28_num 43 0) (h0_lodgerref28_num s0 s1 s5 s6)).opt = lodgerref28_num_l0 n s0 s1 s5 s6)
  | 0 => fun _ _ _ _ => rfl
  | n + 1 => by
    have ih := fx_lodgerref28_num n
    have e0 : (fun s0 s1 s5 s6 => (Lfix C_lodgerref28_num (clD C_lodgerref28_num 0) (hdOf C_lodgerref28_num hd_lodgerref28_num) (finW C_lodgerref28_num 43 [i64] (res1 i64)) n (todoOf C_lodgerref28_num 43 0) (h0_lodgerref28_num s0 s1 s5 s6)).opt) = lodgerref28_num_l0 n := funext fun s0 => funext fun s1 => funext fun s5 => funext fun s6 => ih s0 s1 s5 s6
    exact fun s0 s1 s5 s6 => (congrArg D.opt (Lfix_round C_lodgerref28_num (clD C_lodgerref28_num 0) (hdOf C_lodgerref28_num hd_lodgerref28_num) 43 0 [i64] (res1 i64) n _)).trans ((rd0_lodgerref28_num (Lfix C_lodgerref28_num (clD C_lodgerref28_num 0) (hdOf C_lodgerref28_num hd_lodgerref28_num) (finW C_lodgerref28_num 43 [i64] (res1 i64)) n) s0 s1 s5 s6).trans (congrArg (fun x => lodgerref28_num_s0  x  s0 s1 s5 s6) e0))
theorem ev_lodgerref28_num (n : Nat) (a0 : (List (List UInt8))) (a1 : Int) : (runF C_lodgerref28_num (clD C_lodgerref28_num 0) (hdOf C_lodgerref28_num hd_lodgerref28_num) 43 [i64] (res1 i64) n [encV E (Ty.slice Ty.str) a0, encV E i64 a1]).opt = lodgerref28_num_n n a0 a1 := by
  have ih := fx_lodgerref28_num n
  have e0 : (fun s0 s1 s5 s6 => (Lfix C_lodgerref28_num (clD C_lodgerref28_num 0) (hdOf C_lodgerref28_num hd_lodgerref28_num) (finW C_lodgerref28_num 43 [i64] (res1 i64)) n (todoOf C_lodgerref28_num 43 0) (h0_lodgerref28_num s0 s1 s5 s6)).opt) = lodgerref28_num_l0 n := funext fun s0 => funext fun s1 => funext fun s5 => funext fun s6 => ih s0 s1 s5 s6
  exact (congrArg D.opt (runF_eq C_lodgerref28_num (clD C_lodgerref28_num 0) (hdOf C_lodgerref28_num hd_lodgerref28_num) 43 [i64] (res1 i64) n _)).trans ((en_lodgerref28_num (Lfix C_lodgerref28_num (clD C_lodgerref28_num 0) (hdOf C_lodgerref28_num hd_lodgerref28_num) (finW C_lodgerref28_num 43 [i64] (res1 i64)) n) a0 a1).trans (congrArg (fun x => lodgerref28_num_e  x  a0 a1) e0))
theorem ok_lodgerref28_num : SpecOK C_lodgerref28_num 43 sp_lodgerref28_num := by
  have hS := specs_ok (C := C_lodgerref28_num) (l := us_lodgerref28_num) rfl trivial
  refine spec_ok (C := C_lodgerref28_num) (cl := (clD C_lodgerref28_num 0)) (hd := (hdOf C_lodgerref28_num hd_lodgerref28_num)) envOK (tyOK_of (l := tab) rfl tabT) hS (clD_ok envOK (tyOK_of (l := tab) rfl tabT) hS mixed (inl_ok (l := []) rfl (by kernel_rfl)) _) mixed (hdOf_ok envOK hd_lodgerref28_num) (by kernel_rfl) [i64] (res1 i64) (de1 (S := S) i64) fun cs r h => ?_
  obtain ⟨a0, a1, rfl, h⟩ := inv2 h
  exact ⟨big, (ev_lodgerref28_num big a0 a1).trans ((def_lodgerref28_num a0 a1).symm.trans h)⟩
-- lodger/lodgerref04.numbers
def lodgerref04_numbers_s0b  (k0 : (List UInt8) → Int → (List Int) → Option ((List Int))) (s0 : (List UInt8)) (s4 : Int) (m0 : (List Int)) : Option ((List Int)) := (bif (decide (s4 < (List.length s0 : Int))) then ((geti s0 s4).bind fun b1 => (bif (decide ((b1.toNat : Int) ≥ 48)) then ((geti s0 s4).bind fun b2 => (bif (decide ((b2.toNat : Int) ≤ 57)) then (bif (decide (0 ≤ (IntKind.wrap .i64 ((List.length m0 : Int) - 1)) ∧ (IntKind.wrap .i64 ((List.length m0 : Int) - 1)) < (m0.length : Int))) then ((m0[(IntKind.wrap .i64 ((List.length m0 : Int) - 1)).toNat]?).bind fun x3 => ((geti s0 s4).bind fun b4 => (bif (decide (0 ≤ (IntKind.wrap .i64 ((List.length m0 : Int) - 1)) ∧ (IntKind.wrap .i64 ((List.length m0 : Int) - 1)) < (m0.length : Int))) then ((m0[(IntKind.wrap .i64 ((List.length m0 : Int) - 1)).toNat]?).bind fun x5 => k0 s0 (IntKind.wrap .i64 (s4 + 1)) (m0.set ((IntKind.wrap .i64 ((List.length m0 : Int) - 1)).toNat) (mm false (IntKind.wrap .i64 ((IntKind.wrap .i64 ((IntKind.wrap .i64 (10 * x3)) + (IntKind.wrap .i64 (b4.toNat : Int)))) - 48)) 100000))) else none))) else none) else (bif (decide (m0.length + ([0] : List Int).length ≤ maxList)) then k0 s0 (IntKind.wrap .i64 (s4 + 1)) (m0 ++ ([0] : List Int)) else none))) else (bif (decide (m0.length + ([0] : List Int).length ≤ maxList)) then k0 s0 (IntKind.wrap .i64 (s4 + 1)) (m0 ++ ([0] : List Int)) else none))) else some m0)
def lodgerref04_numbers_eb  (k0 : (List UInt8) → Int → (List Int) → Option ((List Int))) (a0 : (List UInt8)) : Option ((List Int)) := k0 a0 0 ([0] : List Int)
def sp_lodgerref04_numbers : Spec S := { args := [Ty.str], R := (List Int), run := run1 Ty.str lodgerref04_numbers, enc := enc1 (S := S) (Ty.slice i64) }
def spb_lodgerref04_numbers (F : (List UInt8) → Option ((List Int))) : Spec S := { args := [Ty.str], R := (List Int), run := run1 Ty.str F, enc := enc1 (S := S) (Ty.slice i64) }
def usb_lodgerref04_numbers  : List (Nat × Spec S) := []
def us_lodgerref04_numbers : List (Nat × Spec S) := []
noncomputable def Cb_lodgerref04_numbers  : Ctx S := { P := Tryd.prog, E := E, ty := tyL tab, G := glL gtab, spec := spL (usb_lodgerref04_numbers ), inl := inL [], own := true }
noncomputable def C_lodgerref04_numbers : Ctx S := Cb_lodgerref04_numbers 
def hd_lodgerref04_numbers : List ((Nat × Nat) × List Hs) := [((2, 3), [.canon 1 [0] [0, 3, 4], .plain 0 Ty.str, .plain 4 i64])]
def h0_lodgerref04_numbers (s0 : (List UInt8)) (s4 : Int) (m0 : (List Int)) : St S := { tmps := [.cell Ty.str s0, .undef, .undef, .own 0 0, .cell i64 s4, .undef, .undef, .undef, .undef, .undef, .undef, .undef, .undef, .undef, .undef, .undef, .undef, .undef, .undef, .undef, .undef, .undef, .undef, .undef, .undef, .undef, .undef, .undef, .undef, .undef, .undef, .undef, .undef, .undef, .undef, .undef, .undef, .undef, .undef, .undef, .undef, .undef, .undef, .undef, .undef, .undef, .undef], mem := [.arr 3 i64 m0 0 false] }
theorem rdb0_lodgerref04_numbers  (L : Lp S ((List Int))) (s0 : (List UInt8)) (s4 : Int) (m0 : (List Int)) : (roundWF (Cb_lodgerref04_numbers ) (clDF (Cb_lodgerref04_numbers ) 0) (hdOf (Cb_lodgerref04_numbers ) hd_lodgerref04_numbers) 62 0 [(Ty.slice i64)] (res1 (Ty.slice i64)) L (h0_lodgerref04_numbers s0 s4 m0)).opt = lodgerref04_numbers_s0b  (fun s0 s4 m0 => (L (todoOf (Cb_lodgerref04_numbers ) 62 0) (h0_lodgerref04_numbers s0 s4 m0)).opt) s0 s4 m0 := by kernel_rfl
theorem rd0_lodgerref04_numbers (L : Lp S ((List Int))) (s0 : (List UInt8)) (s4 : Int) (m0 : (List Int)) : (roundW C_lodgerref04_numbers (clD C_lodgerref04_numbers 0) (hdOf C_lodgerref04_numbers hd_lodgerref04_numbers) 62 0 [(Ty.slice i64)] (res1 (Ty.slice i64)) L (h0_lodgerref04_numbers s0 s4 m0)).opt = lodgerref04_numbers_s0 (fun s0 s4 m0 => (L (todoOf C_lodgerref04_numbers 62 0) (h0_lodgerref04_numbers s0 s4 m0)).opt) s0 s4 m0 := (congrArg D.opt (roundWF_eq _ _ _ _ _ _ _ L _)).trans (rdb0_lodgerref04_numbers  L s0 s4 m0)
theorem enb_lodgerref04_numbers  (L : Lp S ((List Int))) (a0 : (List UInt8)) : (runWF (Cb_lodgerref04_numbers ) (clDF (Cb_lodgerref04_numbers ) 0) (fun _ => canonL (hdOf (Cb_lodgerref04_numbers ) hd_lodgerref04_numbers) L) 62 [(Ty.slice i64)] (res1 (Ty.slice i64)) [encV E Ty.str a0]).opt = lodgerref04_numbers_eb  (fun s0 s4 m0 => (L (todoOf (Cb_lodgerref04_numbers ) 62 0) (h0_lodgerref04_numbers s0 s4 m0)).opt) a0 := by kernel_rfl
theorem en_lodgerref04_numbers (L : Lp S ((List Int))) (a0 : (List UInt8)) : (runW C_lodgerref04_numbers (clD C_lodgerref04_numbers 0) (fun _ => canonL (hdOf C_lodgerref04_numbers hd_lodgerref04_numbers) L) 62 [(Ty.slice i64)] (res1 (Ty.slice i64)) [encV E Ty.str a0]).opt = lodgerref04_numbers_e (fun s0 s4 m0 => (L (todoOf C_lodgerref04_numbers 62 0) (h0_lodgerref04_numbers s0 s4 m0)).opt) a0 := (congrArg D.opt (runWF_eq _ _ _ _ _ _ _)).trans (enb_lodgerref04_numbers  L a0)
theorem fx_lodgerref04_numbers : ∀ n, (∀ (s0 : (List UInt8)) (s4 : Int) (m0 : (List Int)), (Lfix C_lodgerref04_numbers (clD C_lodgerref04_numbers 0) (hdOf C_lodgerref04_numbers hd_lodgerref04_numbers) (finW C_lodgerref04_numbers 62 [(Ty.slice i64)] (res1 (Ty.slice i64))) n (todoOf C_lodgerref04_numbers 62 0) (h0_lodgerref04_numbers s0 s4 m0)).opt = lodgerref04_numbers_l0 n s0 s4 m0)
  | 0 => fun _ _ _ => rfl
  | n + 1 => by
    have ih := fx_lodgerref04_numbers n
    have e0 : (fun s0 s4 m0 => (Lfix C_lodgerref04_numbers (clD C_lodgerref04_numbers 0) (hdOf C_lodgerref04_numbers hd_lodgerref04_numbers) (finW C_lodgerref04_numbers 62 [(Ty.slice i64)] (res1 (Ty.slice i64))) n (todoOf C_lodgerref04_numbers 62 0) (h0_lodgerref04_numbers s0 s4 m0)).opt) = lodgerref04_numbers_l0 n := funext fun s0 => funext fun s4 => funext fun m0 => ih s0 s4 m0
    exact fun s0 s4 m0 => (congrArg D.opt (Lfix_round C_lodgerref04_numbers (clD C_lodgerref04_numbers 0) (hdOf C_lodgerref04_numbers hd_lodgerref04_numbers) 62 0 [(Ty.slice i64)] (res1 (Ty.slice i64)) n _)).trans ((rd0_lodgerref04_numbers (Lfix C_lodgerref04_numbers (clD C_lodgerref04_numbers 0) (hdOf C_lodgerref04_numbers hd_lodgerref04_numbers) (finW C_lodgerref04_numbers 62 [(Ty.slice i64)] (res1 (Ty.slice i64))) n) s0 s4 m0).trans (congrArg (fun x => lodgerref04_numbers_s0  x  s0 s4 m0) e0))
theorem ev_lodgerref04_numbers (n : Nat) (a0 : (List UInt8)) : (runF C_lodgerref04_numbers (clD C_lodgerref04_numbers 0) (hdOf C_lodgerref04_numbers hd_lodgerref04_numbers) 62 [(Ty.slice i64)] (res1 (Ty.slice i64)) n [encV E Ty.str a0]).opt = lodgerref04_numbers_n n a0 := by
  have ih := fx_lodgerref04_numbers n
  have e0 : (fun s0 s4 m0 => (Lfix C_lodgerref04_numbers (clD C_lodgerref04_numbers 0) (hdOf C_lodgerref04_numbers hd_lodgerref04_numbers) (finW C_lodgerref04_numbers 62 [(Ty.slice i64)] (res1 (Ty.slice i64))) n (todoOf C_lodgerref04_numbers 62 0) (h0_lodgerref04_numbers s0 s4 m0)).opt) = lodgerref04_numbers_l0 n := funext fun s0 => funext fun s4 => funext fun m0 => ih s0 s4 m0
  exact (congrArg D.opt (runF_eq C_lodgerref04_numbers (clD C_lodgerref04_numbers 0) (hdOf C_lodgerref04_numbers hd_lodgerref04_numbers) 62 [(Ty.slice i64)] (res1 (Ty.slice i64)) n _)).trans ((en_lodgerref04_numbers (Lfix C_lodgerref04_numbers (clD C_lodgerref04_numbers 0) (hdOf C_lodgerref04_numbers hd_lodgerref04_numbers) (finW C_lodgerref04_numbers 62 [(Ty.slice i64)] (res1 (Ty.slice i64))) n) a0).trans (congrArg (fun x => lodgerref04_numbers_e  x  a0) e0))
theorem ok_lodgerref04_numbers : SpecOK C_lodgerref04_numbers 62 sp_lodgerref04_numbers := by
  have hS := specs_ok (C := C_lodgerref04_numbers) (l := us_lodgerref04_numbers) rfl trivial
  refine spec_ok (C := C_lodgerref04_numbers) (cl := (clD C_lodgerref04_numbers 0)) (hd := (hdOf C_lodgerref04_numbers hd_lodgerref04_numbers)) envOK (tyOK_of (l := tab) rfl tabT) hS (clD_ok envOK (tyOK_of (l := tab) rfl tabT) hS mixed (inl_ok (l := []) rfl (by kernel_rfl)) _) mixed (hdOf_ok envOK hd_lodgerref04_numbers) (by kernel_rfl) [(Ty.slice i64)] (res1 (Ty.slice i64)) (de1 (S := S) (Ty.slice i64)) fun cs r h => ?_
  obtain ⟨a0, rfl, h⟩ := inv1 h
  exact ⟨big, (ev_lodgerref04_numbers big a0).trans ((def_lodgerref04_numbers a0).symm.trans h)⟩
-- lodger/lodgerref04.Parse
def lodgerref04_Parse_b (g_lodgerref04_Text : Int → Option ((List UInt8))) (g_lodgerref04_numbers : (List UInt8) → Option ((List Int))) (a0 : (List UInt8)) : Option (Int × Int) := ((g_lodgerref04_numbers a0).bind fun r1 => (bif ((List.length r1 : Int) != 4) then some (0, 2) else ((geti r1 0).bind fun x2 => (bif (decide (x2 > 255)) then some (0, 2) else ((geti r1 1).bind fun x3 => (bif (decide (x3 > 255)) then some (0, 2) else ((geti r1 2).bind fun x4 => (bif (decide (x4 > 255)) then some (0, 2) else ((geti r1 3).bind fun x5 => (bif (decide (x5 > 255)) then some (0, 2) else ((geti r1 0).bind fun x6 => ((geti r1 1).bind fun x7 => ((geti r1 2).bind fun x8 => ((geti r1 3).bind fun x9 => ((g_lodgerref04_Text (IntKind.wrap .u32 ((IntKind.wrap .u32 ((IntKind.wrap .u32 ((IntKind.wrap .u32 ((IntKind.wrap .u32 x6) * 16777216)) + (IntKind.wrap .u32 ((IntKind.wrap .u32 x7) * 65536)))) + (IntKind.wrap .u32 ((IntKind.wrap .u32 x8) * 256)))) + (IntKind.wrap .u32 x9)))).bind fun r10 => (bif (!(r10 == a0)) then some (0, 2) else some ((IntKind.wrap .u32 ((IntKind.wrap .u32 ((IntKind.wrap .u32 ((IntKind.wrap .u32 ((IntKind.wrap .u32 x6) * 16777216)) + (IntKind.wrap .u32 ((IntKind.wrap .u32 x7) * 65536)))) + (IntKind.wrap .u32 ((IntKind.wrap .u32 x8) * 256)))) + (IntKind.wrap .u32 x9))), 0)))))))))))))))))
def sp_lodgerref04_Parse : Spec S := { args := [Ty.str], R := Int × Int, run := run1 Ty.str lodgerref04_Parse, enc := enc2 (S := S) u32 i64 }
def spb_lodgerref04_Parse (F : (List UInt8) → Option (Int × Int)) : Spec S := { args := [Ty.str], R := Int × Int, run := run1 Ty.str F, enc := enc2 (S := S) u32 i64 }
def usb_lodgerref04_Parse (g_lodgerref04_Text : Int → Option ((List UInt8))) (g_lodgerref04_numbers : (List UInt8) → Option ((List Int))) : List (Nat × Spec S) := [(21, spb_lodgerref04_Text g_lodgerref04_Text), (62, spb_lodgerref04_numbers g_lodgerref04_numbers)]
def us_lodgerref04_Parse : List (Nat × Spec S) := [(21, sp_lodgerref04_Text), (62, sp_lodgerref04_numbers)]
noncomputable def Cb_lodgerref04_Parse (g_lodgerref04_Text : Int → Option ((List UInt8))) (g_lodgerref04_numbers : (List UInt8) → Option ((List Int))) : Ctx S := { P := Tryd.prog, E := E, ty := tyL tab, G := glL gtab, spec := spL (usb_lodgerref04_Parse g_lodgerref04_Text g_lodgerref04_numbers), inl := inL [] }
noncomputable def C_lodgerref04_Parse : Ctx S := Cb_lodgerref04_Parse lodgerref04_Text lodgerref04_numbers
theorem evb_lodgerref04_Parse (g_lodgerref04_Text : Int → Option ((List UInt8))) (g_lodgerref04_numbers : (List UInt8) → Option ((List Int))) (L : (St S → D (Int × Int)) → Lp S (Int × Int)) (a0 : (List UInt8)) : (runWF (Cb_lodgerref04_Parse g_lodgerref04_Text g_lodgerref04_numbers) (clDF (Cb_lodgerref04_Parse g_lodgerref04_Text g_lodgerref04_numbers) 0) L 44 [u32, i64] (res2 u32 i64) [encV E Ty.str a0]).opt = lodgerref04_Parse_b g_lodgerref04_Text g_lodgerref04_numbers a0 := by kernel_rfl
theorem ev_lodgerref04_Parse (L : (St S → D (Int × Int)) → Lp S (Int × Int)) (a0 : (List UInt8)) : (runW C_lodgerref04_Parse (clD C_lodgerref04_Parse 0) L 44 [u32, i64] (res2 u32 i64) [encV E Ty.str a0]).opt = lodgerref04_Parse a0 := (congrArg D.opt (runWF_eq _ _ L _ _ _ _)).trans (evb_lodgerref04_Parse lodgerref04_Text lodgerref04_numbers L a0)
theorem ok_lodgerref04_Parse : SpecOK C_lodgerref04_Parse 44 sp_lodgerref04_Parse := by
  have hS := specs_ok (C := C_lodgerref04_Parse) (l := us_lodgerref04_Parse) rfl ⟨ok_lodgerref04_Text.re rfl rfl rfl, ok_lodgerref04_numbers.re rfl rfl rfl, trivial⟩
  refine spec_ok (C := C_lodgerref04_Parse) (cl := (clD C_lodgerref04_Parse 0)) (hd := (fun _ s => some s)) envOK (tyOK_of (l := tab) rfl tabT) hS (clD_ok envOK (tyOK_of (l := tab) rfl tabT) hS mixed (inl_ok (l := []) rfl (by kernel_rfl)) _) mixed HdOK.id (by kernel_rfl) [u32, i64] (res2 u32 i64) (de2 (S := S) u32 i64) fun cs r h => ?_
  obtain ⟨a0, rfl, h⟩ := inv1 h
  exact ⟨0, (ev_lodgerref04_Parse _ a0).trans h⟩
-- lodger/lodgerref28.one
def lodgerref28_one_s0b (g_lodgerref28_words : (List UInt8) → Option ((List (List UInt8)))) (g_lodgerref28_num : (List (List UInt8)) → Int → Option (Int)) (g_lodgerref04_Parse : (List UInt8) → Option (Int × Int)) (k0 : (List (List UInt8)) → Int → Int → Int → Int → Int → Int → Int → Int → Bool → Int → Int → Int → Int → Int → Int → Int → Bool → (List Int) → Option (Event)) (k1 : (List (List UInt8)) → Int → Int → Int → Int → Int → Int → Int → Int → Bool → Int → Int → Int → Int → Int → Int → Int → Bool → (List Int) → (List Int) → Option (Event)) (s3 : (List (List UInt8))) (s5 : Int) (m0_0 : Int) (m0_1 : Int) (m0_2 : Int) (m0_3 : Int) (m0_4 : Int) (m0_5 : Int) (m0_6 : Int) (m0_7 : Bool) (m1_0 : Int) (m1_1 : Int) (m1_2 : Int) (m1_3 : Int) (m1_4 : Int) (m1_5 : Int) (m1_6 : Int) (m1_7 : Bool) (m2 : (List Int)) : Option (Event) := (bif (decide (s5 < (List.length s3 : Int))) then ((geti s3 s5).bind fun x11 => (bif (!(x11 == ([101, 114, 114, 115] : List UInt8))) then ((geti s3 s5).bind fun x12 => ((g_lodgerref04_Parse x12).bind fun r13 => (bif (decide (m2.length + ([r13.1] : List Int).length ≤ maxList)) then k0 s3 (IntKind.wrap .i64 (s5 + 1)) m0_0 m0_1 m0_2 m0_3 m0_4 m0_5 m0_6 m0_7 m1_0 m1_1 m1_2 m1_3 m1_4 m1_5 m1_6 m1_7 (m2 ++ ([r13.1] : List Int)) else none))) else k1 s3 (IntKind.wrap .i64 (s5 + 1)) m0_0 m0_1 m0_2 m0_3 m0_4 m0_5 m0_6 m0_7 m1_0 m1_1 m1_2 m1_3 m1_4 m1_5 m1_6 m1_7 m2 ([] : (List Int)))) else k1 s3 (IntKind.wrap .i64 (s5 + 1)) m0_0 m0_1 m0_2 m0_3 m0_4 m0_5 m0_6 m0_7 m1_0 m1_1 m1_2 m1_3 m1_4 m1_5 m1_6 m1_7 m2 ([] : (List Int)))
def lodgerref28_one_s1b (g_lodgerref28_words : (List UInt8) → Option ((List (List UInt8)))) (g_lodgerref28_num : (List (List UInt8)) → Int → Option (Int)) (g_lodgerref04_Parse : (List UInt8) → Option (Int × Int)) (k0 : (List (List UInt8)) → Int → Int → Int → Int → Int → Int → Int → Int → Bool → Int → Int → Int → Int → Int → Int → Int → Bool → (List Int) → Option (Event)) (k1 : (List (List UInt8)) → Int → Int → Int → Int → Int → Int → Int → Int → Bool → Int → Int → Int → Int → Int → Int → Int → Bool → (List Int) → (List Int) → Option (Event)) (s3 : (List (List UInt8))) (s5 : Int) (m0_0 : Int) (m0_1 : Int) (m0_2 : Int) (m0_3 : Int) (m0_4 : Int) (m0_5 : Int) (m0_6 : Int) (m0_7 : Bool) (m1_0 : Int) (m1_1 : Int) (m1_2 : Int) (m1_3 : Int) (m1_4 : Int) (m1_5 : Int) (m1_6 : Int) (m1_7 : Bool) (m2 : (List Int)) (m3 : (List Int)) : Option (Event) := (bif (decide (s5 < (List.length s3 : Int))) then ((g_lodgerref28_num s3 s5).bind fun r14 => (bif (decide (m3.length + ([r14] : List Int).length ≤ maxList)) then k1 s3 (IntKind.wrap .i64 (s5 + 1)) m0_0 m0_1 m0_2 m0_3 m0_4 m0_5 m0_6 m0_7 m1_0 m1_1 m1_2 m1_3 m1_4 m1_5 m1_6 m1_7 m2 (m3 ++ ([r14] : List Int)) else none)) else some (⟨m1_0, m1_1, m1_2, m1_3, m1_4, ⟨m1_5, m1_6, m1_7, m2, m3⟩⟩ : Event))
def lodgerref28_one_eb (g_lodgerref28_words : (List UInt8) → Option ((List (List UInt8)))) (g_lodgerref28_num : (List (List UInt8)) → Int → Option (Int)) (g_lodgerref04_Parse : (List UInt8) → Option (Int × Int)) (k0 : (List (List UInt8)) → Int → Int → Int → Int → Int → Int → Int → Int → Bool → Int → Int → Int → Int → Int → Int → Int → Bool → (List Int) → Option (Event)) (k1 : (List (List UInt8)) → Int → Int → Int → Int → Int → Int → Int → Int → Bool → Int → Int → Int → Int → Int → Int → Int → Bool → (List Int) → (List Int) → Option (Event)) (a0 : (List UInt8)) : Option (Event) := ((g_lodgerref28_words a0).bind fun r1 => ((g_lodgerref28_num r1 0).bind fun r2 => ((g_lodgerref28_num r1 1).bind fun r3 => ((g_lodgerref28_num r1 2).bind fun r4 => ((g_lodgerref28_num r1 3).bind fun r5 => ((g_lodgerref28_num r1 4).bind fun r6 => ((g_lodgerref28_num r1 5).bind fun r7 => (bif (decide ((List.length r1 : Int) > 7)) then ((geti r1 6).bind fun x8 => ((g_lodgerref04_Parse x8).bind fun r9 => ((geti r1 7).bind fun x10 => k0 r1 9 0 0 0 0 0 0 0 false r2 r3 r4 r5 r6 r7 r9.1 (x10 == ([121, 101, 115] : List UInt8)) ([] : (List Int))))) else k0 r1 9 0 0 0 0 0 0 0 false r2 r3 r4 r5 r6 r7 0 false ([] : (List Int))))))))))
def sp_lodgerref28_one : Spec S := { args := [Ty.str], R := Event, run := run1 Ty.str lodgerref28_one, enc := enc1 (S := S) (Ty.st 6) }
def spb_lodgerref28_one (F : (List UInt8) → Option (Event)) : Spec S := { args := [Ty.str], R := Event, run := run1 Ty.str F, enc := enc1 (S := S) (Ty.st 6) }
def usb_lodgerref28_one (g_lodgerref28_words : (List UInt8) → Option ((List (List UInt8)))) (g_lodgerref28_num : (List (List UInt8)) → Int → Option (Int)) (g_lodgerref04_Parse : (List UInt8) → Option (Int × Int)) : List (Nat × Spec S) := [(42, spb_lodgerref28_words g_lodgerref28_words), (43, spb_lodgerref28_num g_lodgerref28_num), (44, spb_lodgerref04_Parse g_lodgerref04_Parse)]
def us_lodgerref28_one : List (Nat × Spec S) := [(42, sp_lodgerref28_words), (43, sp_lodgerref28_num), (44, sp_lodgerref04_Parse)]
noncomputable def Cb_lodgerref28_one (g_lodgerref28_words : (List UInt8) → Option ((List (List UInt8)))) (g_lodgerref28_num : (List (List UInt8)) → Int → Option (Int)) (g_lodgerref04_Parse : (List UInt8) → Option (Int × Int)) : Ctx S := { P := Tryd.prog, E := E, ty := tyL tab, G := glL gtab, spec := spL (usb_lodgerref28_one g_lodgerref28_words g_lodgerref28_num g_lodgerref04_Parse), inl := inL [] }
noncomputable def C_lodgerref28_one : Ctx S := Cb_lodgerref28_one lodgerref28_words lodgerref28_num lodgerref04_Parse
def hd_lodgerref28_one : List ((Nat × Nat) × List Hs) := [((2, 8), [.promoB 1 8 37 u32, .canon 3 [0, 1, 2] [2, 3, 4, 5], .plain 3 (Ty.slice Ty.str), .plain 5 i64, .plainB 0 0 i64, .plainB 0 1 i64, .plainB 0 2 i64, .plainB 0 3 i64, .plainB 0 4 i64, .plainB 0 5 i64, .plainB 0 6 u32, .plainB 0 7 Ty.bool, .plainB 1 0 i64, .plainB 1 1 i64, .plainB 1 2 i64, .plainB 1 3 i64, .plainB 1 4 i64, .plainB 1 5 i64, .plainB 1 6 u32, .plainB 1 7 Ty.bool]), ((2, 13), [.promoB 1 9 25 i64, .canon 4 [0, 1, 2, 3] [2, 3, 4, 5], .plain 3 (Ty.slice Ty.str), .plain 5 i64, .plainB 0 0 i64, .plainB 0 1 i64, .plainB 0 2 i64, .plainB 0 3 i64, .plainB 0 4 i64, .plainB 0 5 i64, .plainB 0 6 u32, .plainB 0 7 Ty.bool, .plainB 1 0 i64, .plainB 1 1 i64, .plainB 1 2 i64, .plainB 1 3 i64, .plainB 1 4 i64, .plainB 1 5 i64, .plainB 1 6 u32, .plainB 1 7 Ty.bool])]
def h0_lodgerref28_one (s3 : (List (List UInt8))) (s5 : Int) (m0_0 : Int) (m0_1 : Int) (m0_2 : Int) (m0_3 : Int) (m0_4 : Int) (m0_5 : Int) (m0_6 : Int) (m0_7 : Bool) (m1_0 : Int) (m1_1 : Int) (m1_2 : Int) (m1_3 : Int) (m1_4 : Int) (m1_5 : Int) (m1_6 : Int) (m1_7 : Bool) (m2 : (List Int)) : St S := { tmps := [.undef, .undef, .ptr 0 0, .cell (Ty.slice Ty.str) s3, .ptr 1 0, .cell i64 s5, .undef, .undef, .undef, .undef, .undef, .undef, .undef, .undef, .undef, .undef, .undef, .undef, .undef, .undef, .undef, .undef, .undef, .undef, .undef, .undef, .undef, .undef, .undef, .undef, .undef, .undef, .undef, .undef, .undef, .undef, .undef, .undef, .undef, .undef, .undef, .undef, .undef, .undef, .undef, .undef, .undef, .undef, .undef, .undef, .undef, .undef, .undef, .undef, .undef, .undef, .undef, .undef, .undef, .undef, .undef, .undef, .undef, .undef, .undef, .undef, .undef, .undef, .undef, .undef, .undef, .undef, .undef, .undef, .undef, .undef, .undef, .undef, .undef, .undef, .undef, .undef, .undef, .undef, .undef, .undef, .undef, .undef, .undef, .undef, .undef], mem := [.box [.cell i64 m0_0, .cell i64 m0_1, .cell i64 m0_2, .cell i64 m0_3, .cell i64 m0_4, .cell i64 m0_5, .cell u32 m0_6, .cell Ty.bool m0_7, .nilS, .nilS] false, .box [.cell i64 m1_0, .cell i64 m1_1, .cell i64 m1_2, .cell i64 m1_3, .cell i64 m1_4, .cell i64 m1_5, .cell u32 m1_6, .cell Ty.bool m1_7, .own 2 0, .nilS] false, .arr 37 u32 m2 0 false] }
def h1_lodgerref28_one (s3 : (List (List UInt8))) (s5 : Int) (m0_0 : Int) (m0_1 : Int) (m0_2 : Int) (m0_3 : Int) (m0_4 : Int) (m0_5 : Int) (m0_6 : Int) (m0_7 : Bool) (m1_0 : Int) (m1_1 : Int) (m1_2 : Int) (m1_3 : Int) (m1_4 : Int) (m1_5 : Int) (m1_6 : Int) (m1_7 : Bool) (m2 : (List Int)) (m3 : (List Int)) : St S := { tmps := [.undef, .undef, .ptr 0 0, .cell (Ty.slice Ty.str) s3, .ptr 1 0, .cell i64 s5, .undef, .undef, .undef, .undef, .undef, .undef, .undef, .undef, .undef, .undef, .undef, .undef, .undef, .undef, .undef, .undef, .undef, .undef, .undef, .undef, .undef, .undef, .undef, .undef, .undef, .undef, .undef, .undef, .undef, .undef, .undef, .undef, .undef, .undef, .undef, .undef, .undef, .undef, .undef, .undef, .undef, .undef, .undef, .undef, .undef, .undef, .undef, .undef, .undef, .undef, .undef, .undef, .undef, .undef, .undef, .undef, .undef, .undef, .undef, .undef, .undef, .undef, .undef, .undef, .undef, .undef, .undef, .undef, .undef, .undef, .undef, .undef, .undef, .undef, .undef, .undef, .undef, .undef, .undef, .undef, .undef, .undef, .undef, .undef, .undef], mem := [.box [.cell i64 m0_0, .cell i64 m0_1, .cell i64 m0_2, .cell i64 m0_3, .cell i64 m0_4, .cell i64 m0_5, .cell u32 m0_6, .cell Ty.bool m0_7, .nilS, .nilS] false, .box [.cell i64 m1_0, .cell i64 m1_1, .cell i64 m1_2, .cell i64 m1_3, .cell i64 m1_4, .cell i64 m1_5, .cell u32 m1_6, .cell Ty.bool m1_7, .own 2 0, .own 3 0] false, .arr 37 u32 m2 0 false, .arr 25 i64 m3 0 false] }
theorem rdb0_lodgerref28_one (g_lodgerref28_words : (List UInt8) → Option ((List (List UInt8)))) (g_lodgerref28_num : (List (List UInt8)) → Int → Option (Int)) (g_lodgerref04_Parse : (List UInt8) → Option (Int × Int)) (L : Lp S (Event)) (s3 : (List (List UInt8))) (s5 : Int) (m0_0 : Int) (m0_1 : Int) (m0_2 : Int) (m0_3 : Int) (m0_4 : Int) (m0_5 : Int) (m0_6 : Int) (m0_7 : Bool) (m1_0 : Int) (m1_1 : Int) (m1_2 : Int) (m1_3 : Int) (m1_4 : Int) (m1_5 : Int) (m1_6 : Int) (m1_7 : Bool) (m2 : (List Int)) : (roundWF (Cb_lodgerref28_one g_lodgerref28_words g_lodgerref28_num g_lodgerref04_Parse) (clDF (Cb_lodgerref28_one g_lodgerref28_words g_lodgerref28_num g_lodgerref04_Parse) 0) (hdOf (Cb_lodgerref28_one g_lodgerref28_words g_lodgerref28_num g_lodgerref04_Parse) hd_lodgerref28_one) 24 0 [(Ty.st 6)] (res1 (Ty.st 6)) L (h0_lodgerref28_one s3 s5 m0_0 m0_1 m0_2 m0_3 m0_4 m0_5 m0_6 m0_7 m1_0 m1_1 m1_2 m1_3 m1_4 m1_5 m1_6 m1_7 m2)).opt = lodgerref28_one_s0b g_lodgerref28_words g_lodgerref28_num g_lodgerref04_Parse (fun s3 s5 m0_0 m0_1 m0_2 m0_3 m0_4 m0_5 m0_6 m0_7 m1_0 m1_1 m1_2 m1_3 m1_4 m1_5 m1_6 m1_7 m2 => (L (todoOf (Cb_lodgerref28_one g_lodgerref28_words g_lodgerref28_num g_lodgerref04_Parse) 24 0) (h0_lodgerref28_one s3 s5 m0_0 m0_1 m0_2 m0_3 m0_4 m0_5 m0_6 m0_7 m1_0 m1_1 m1_2 m1_3 m1_4 m1_5 m1_6 m1_7 m2)).opt) (fun s3 s5 m0_0 m0_1 m0_2 m0_3 m0_4 m0_5 m0_6 m0_7 m1_0 m1_1 m1_2 m1_3 m1_4 m1_5 m1_6 m1_7 m2 m3 => (L (todoOf (Cb_lodgerref28_one g_lodgerref28_words g_lodgerref28_num g_lodgerref04_Parse) 24 1) (h1_lodgerref28_one s3 s5 m0_0 m0_1 m0_2 m0_3 m0_4 m0_5 m0_6 m0_7 m1_0 m1_1 m1_2 m1_3 m1_4 m1_5 m1_6 m1_7 m2 m3)).opt) s3 s5 m0_0 m0_1 m0_2 m0_3 m0_4 m0_5 m0_6 m0_7 m1_0 m1_1 m1_2 m1_3 m1_4 m1_5 m1_6 m1_7 m2 := by kernel_rfl
theorem rd0_lodgerref28_one (L : Lp S (Event)) (s3 : (List (List UInt8))) (s5 : Int) (m0_0 : Int) (m0_1 : Int) (m0_2 : Int) (m0_3 : Int) (m0_4 : Int) (m0_5 : Int) (m0_6 : Int) (m0_7 : Bool) (m1_0 : Int) (m1_1 : Int) (m1_2 : Int) (m1_3 : Int) (m1_4 : Int) (m1_5 : Int) (m1_6 : Int) (m1_7 : Bool) (m2 : (List Int)) : (roundW C_lodgerref28_one (clD C_lodgerref28_one 0) (hdOf C_lodgerref28_one hd_lodgerref28_one) 24 0 [(Ty.st 6)] (res1 (Ty.st 6)) L (h0_lodgerref28_one s3 s5 m0_0 m0_1 m0_2 m0_3 m0_4 m0_5 m0_6 m0_7 m1_0 m1_1 m1_2 m1_3 m1_4 m1_5 m1_6 m1_7 m2)).opt = lodgerref28_one_s0 (fun s3 s5 m0_0 m0_1 m0_2 m0_3 m0_4 m0_5 m0_6 m0_7 m1_0 m1_1 m1_2 m1_3 m1_4 m1_5 m1_6 m1_7 m2 => (L (todoOf C_lodgerref28_one 24 0) (h0_lodgerref28_one s3 s5 m0_0 m0_1 m0_2 m0_3 m0_4 m0_5 m0_6 m0_7 m1_0 m1_1 m1_2 m1_3 m1_4 m1_5 m1_6 m1_7 m2)).opt) (fun s3 s5 m0_0 m0_1 m0_2 m0_3 m0_4 m0_5 m0_6 m0_7 m1_0 m1_1 m1_2 m1_3 m1_4 m1_5 m1_6 m1_7 m2 m3 => (L (todoOf C_lodgerref28_one 24 1) (h1_lodgerref28_one s3 s5 m0_0 m0_1 m0_2 m0_3 m0_4 m0_5 m0_6 m0_7 m1_0 m1_1 m1_2 m1_3 m1_4 m1_5 m1_6 m1_7 m2 m3)).opt) s3 s5 m0_0 m0_1 m0_2 m0_3 m0_4 m0_5 m0_6 m0_7 m1_0 m1_1 m1_2 m1_3 m1_4 m1_5 m1_6 m1_7 m2 := (congrArg D.opt (roundWF_eq _ _ _ _ _ _ _ L _)).trans (rdb0_lodgerref28_one lodgerref28_words lodgerref28_num lodgerref04_Parse L s3 s5 m0_0 m0_1 m0_2 m0_3 m0_4 m0_5 m0_6 m0_7 m1_0 m1_1 m1_2 m1_3 m1_4 m1_5 m1_6 m1_7 m2)
theorem rdb1_lodgerref28_one (g_lodgerref28_words : (List UInt8) → Option ((List (List UInt8)))) (g_lodgerref28_num : (List (List UInt8)) → Int → Option (Int)) (g_lodgerref04_Parse : (List UInt8) → Option (Int × Int)) (L : Lp S (Event)) (s3 : (List (List UInt8))) (s5 : Int) (m0_0 : Int) (m0_1 : Int) (m0_2 : Int) (m0_3 : Int) (m0_4 : Int) (m0_5 : Int) (m0_6 : Int) (m0_7 : Bool) (m1_0 : Int) (m1_1 : Int) (m1_2 : Int) (m1_3 : Int) (m1_4 : Int) (m1_5 : Int) (m1_6 : Int) (m1_7 : Bool) (m2 : (List Int)) (m3 : (List Int)) : (roundWF (Cb_lodgerref28_one g_lodgerref28_words g_lodgerref28_num g_lodgerref04_Parse) (clDF (Cb_lodgerref28_one g_lodgerref28_words g_lodgerref28_num g_lodgerref04_Parse) 0) (hdOf (Cb_lodgerref28_one g_lodgerref28_words g_lodgerref28_num g_lodgerref04_Parse) hd_lodgerref28_one) 24 1 [(Ty.st 6)] (res1 (Ty.st 6)) L (h1_lodgerref28_one s3 s5 m0_0 m0_1 m0_2 m0_3 m0_4 m0_5 m0_6 m0_7 m1_0 m1_1 m1_2 m1_3 m1_4 m1_5 m1_6 m1_7 m2 m3)).opt = lodgerref28_one_s1b g_lodgerref28_words g_lodgerref28_num g_lodgerref04_Parse (fun s3 s5 m0_0 m0_1 m0_2 m0_3 m0_4 m0_5 m0_6 m0_7 m1_0 m1_1 m1_2 m1_3 m1_4 m1_5 m1_6 m1_7 m2 => (L (todoOf (Cb_lodgerref28_one g_lodgerref28_words g_lodgerref28_num g_lodgerref04_Parse) 24 0) (h0_lodgerref28_one s3 s5 m0_0 m0_1 m0_2 m0_3 m0_4 m0_5 m0_6 m0_7 m1_0 m1_1 m1_2 m1_3 m1_4 m1_5 m1_6 m1_7 m2)).opt) (fun s3 s5 m0_0 m0_1 m0_2 m0_3 m0_4 m0_5 m0_6 m0_7 m1_0 m1_1 m1_2 m1_3 m1_4 m1_5 m1_6 m1_7 m2 m3 => (L (todoOf (Cb_lodgerref28_one g_lodgerref28_words g_lodgerref28_num g_lodgerref04_Parse) 24 1) (h1_lodgerref28_one s3 s5 m0_0 m0_1 m0_2 m0_3 m0_4 m0_5 m0_6 m0_7 m1_0 m1_1 m1_2 m1_3 m1_4 m1_5 m1_6 m1_7 m2 m3)).opt) s3 s5 m0_0 m0_1 m0_2 m0_3 m0_4 m0_5 m0_6 m0_7 m1_0 m1_1 m1_2 m1_3 m1_4 m1_5 m1_6 m1_7 m2 m3 := by kernel_rfl
theorem rd1_lodgerref28_one (L : Lp S (Event)) (s3 : (List (List UInt8))) (s5 : Int) (m0_0 : Int) (m0_1 : Int) (m0_2 : Int) (m0_3 : Int) (m0_4 : Int) (m0_5 : Int) (m0_6 : Int) (m0_7 : Bool) (m1_0 : Int) (m1_1 : Int) (m1_2 : Int) (m1_3 : Int) (m1_4 : Int) (m1_5 : Int) (m1_6 : Int) (m1_7 : Bool) (m2 : (List Int)) (m3 : (List Int)) : (roundW C_lodgerref28_one (clD C_lodgerref28_one 0) (hdOf C_lodgerref28_one hd_lodgerref28_one) 24 1 [(Ty.st 6)] (res1 (Ty.st 6)) L (h1_lodgerref28_one s3 s5 m0_0 m0_1 m0_2 m0_3 m0_4 m0_5 m0_6 m0_7 m1_0 m1_1 m1_2 m1_3 m1_4 m1_5 m1_6 m1_7 m2 m3)).opt = lodgerref28_one_s1 (fun s3 s5 m0_0 m0_1 m0_2 m0_3 m0_4 m0_5 m0_6 m0_7 m1_0 m1_1 m1_2 m1_3 m1_4 m1_5 m1_6 m1_7 m2 => (L (todoOf C_lodgerref28_one 24 0) (h0_lodgerref28_one s3 s5 m0_0 m0_1 m0_2 m0_3 m0_4 m0_5 m0_6 m0_7 m1_0 m1_1 m1_2 m1_3 m1_4 m1_5 m1_6 m1_7 m2)).opt) (fun s3 s5 m0_0 m0_1 m0_2 m0_3 m0_4 m0_5 m0_6 m0_7 m1_0 m1_1 m1_2 m1_3 m1_4 m1_5 m1_6 m1_7 m2 m3 => (L (todoOf C_lodgerref28_one 24 1) (h1_lodgerref28_one s3 s5 m0_0 m0_1 m0_2 m0_3 m0_4 m0_5 m0_6 m0_7 m1_0 m1_1 m1_2 m1_3 m1_4 m1_5 m1_6 m1_7 m2 m3)).opt) s3 s5 m0_0 m0_1 m0_2 m0_3 m0_4 m0_5 m0_6 m0_7 m1_0 m1_1 m1_2 m1_3 m1_4 m1_5 m1_6 m1_7 m2 m3 := (congrArg D.opt (roundWF_eq _ _ _ _ _ _ _ L _)).trans (rdb1_lodgerref28_one lodgerref28_words lodgerref28_num lodgerref04_Parse L s3 s5 m0_0 m0_1 m0_2 m0_3 m0_4 m0_5 m0_6 m0_7 m1_0 m1_1 m1_2 m1_3 m1_4 m1_5 m1_6 m1_7 m2 m3)
theorem enb_lodgerref28_one (g_lodgerref28_words : (List UInt8) → Option ((List (List UInt8)))) (g_lodgerref28_num : (List (List UInt8)) → Int → Option (Int)) (g_lodgerref04_Parse : (List UInt8) → Option (Int × Int)) (L : Lp S (Event)) (a0 : (List UInt8)) : (runWF (Cb_lodgerref28_one g_lodgerref28_words g_lodgerref28_num g_lodgerref04_Parse) (clDF (Cb_lodgerref28_one g_lodgerref28_words g_lodgerref28_num g_lodgerref04_Parse) 0) (fun _ => canonL (hdOf (Cb_lodgerref28_one g_lodgerref28_words g_lodgerref28_num g_lodgerref04_Parse) hd_lodgerref28_one) L) 24 [(Ty.st 6)] (res1 (Ty.st 6)) [encV E Ty.str a0]).opt = lodgerref28_one_eb g_lodgerref28_words g_lodgerref28_num g_lodgerref04_Parse (fun s3 s5 m0_0 m0_1 m0_2 m0_3 m0_4 m0_5 m0_6 m0_7 m1_0 m1_1 m1_2 m1_3 m1_4 m1_5 m1_6 m1_7 m2 => (L (todoOf (Cb_lodgerref28_one g_lodgerref28_words g_lodgerref28_num g_lodgerref04_Parse) 24 0) (h0_lodgerref28_one s3 s5 m0_0 m0_1 m0_2 m0_3 m0_4 m0_5 m0_6 m0_7 m1_0 m1_1 m1_2 m1_3 m1_4 m1_5 m1_6 m1_7 m2)).opt) (fun s3 s5 m0_0 m0_1 m0_2 m0_3 m0_4 m0_5 m0_6 m0_7 m1_0 m1_1 m1_2 m1_3 m1_4 m1_5 m1_6 m1_7 m2 m3 => (L (todoOf (Cb_lodgerref28_one g_lodgerref28_words g_lodgerref28_num g_lodgerref04_Parse) 24 1) (h1_lodgerref28_one s3 s5 m0_0 m0_1 m0_2 m0_3 m0_4 m0_5 m0_6 m0_7 m1_0 m1_1 m1_2 m1_3 m1_4 m1_5 m1_6 m1_7 m2 m3)).opt) a0 := by kernel_rfl
theorem en_lodgerref28_one (L : Lp S (Event)) (a0 : (List UInt8)) : (runW C_lodgerref28_one (clD C_lodgerref28_one 0) (fun _ => canonL (hdOf C_lodgerref28_one hd_lodgerref28_one) L) 24 [(Ty.st 6)] (res1 (Ty.st 6)) [encV E Ty.str a0]).opt = lodgerref28_one_e (fun s3 s5 m0_0 m0_1 m0_2 m0_3 m0_4 m0_5 m0_6 m0_7 m1_0 m1_1 m1_2 m1_3 m1_4 m1_5 m1_6 m1_7 m2 => (L (todoOf C_lodgerref28_one 24 0) (h0_lodgerref28_one s3 s5 m0_0 m0_1 m0_2 m0_3 m0_4 m0_5 m0_6 m0_7 m1_0 m1_1 m1_2 m1_3 m1_4 m1_5 m1_6 m1_7 m2)).opt) (fun s3 s5 m0_0 m0_1 m0_2 m0_3 m0_4 m0_5 m0_6 m0_7 m1_0 m1_1 m1_2 m1_3 m1_4 m1_5 m1_6 m1_7 m2 m3 => (L (todoOf C_lodgerref28_one 24 1) (h1_lodgerref28_one s3 s5 m0_0 m0_1 m0_2 m0_3 m0_4 m0_5 m0_6 m0_7 m1_0 m1_1 m1_2 m1_3 m1_4 m1_5 m1_6 m1_7 m2 m3)).opt) a0 := (congrArg D.opt (runWF_eq _ _ _ _ _ _ _)).trans (enb_lodgerref28_one lodgerref28_words lodgerref28_num lodgerref04_Parse L a0)
theorem fx_lodgerref28_one : ∀ n, (∀ (s3 : (List (List UInt8))) (s5 : Int) (m0_0 : Int) (m0_1 : Int) (m0_2 : Int) (m0_3 : Int) (m0_4 : Int) (m0_5 : Int) (m0_6 : Int) (m0_7 : Bool) (m1_0 : Int) (m1_1 : Int) (m1_2 : Int) (m1_3 : Int) (m1_4 : Int) (m1_5 : Int) (m1_6 : Int) (m1_7 : Bool) (m2 : (List Int)), (Lfix C_lodgerref28_one (clD C_lodgerref28_one 0) (hdOf C_lodgerref28_one hd_lodgerref28_one) (finW C_lodgerref28_one 24 [(Ty.st 6)] (res1 (Ty.st 6))) n (todoOf C_lodgerref28_one 24 0) (h0_lodgerref28_one s3 s5 m0_0 m0_1 m0_2 m0_3 m0_4 m0_5 m0_6 m0_7 m1_0 m1_1 m1_2 m1_3 m1_4 m1_5 m1_6 m1_7 m2)).opt = lodgerref28_one_l0 n s3 s5 m0_0 m0_1 m0_2 m0_3 m0_4 m0_5 m0_6 m0_7 m1_0 m1_1 m1_2 m1_3 m1_4 m1_5 m1_6 m1_7 m2) ∧ (∀ (s3 : (List (List UInt8))) (s5 : Int) (m0_0 : Int) (m0_1 : Int) (m0_2 : Int) (m0_3 : Int) (m0_4 : Int) (m0_5 : Int) (m0_6 : Int) (m0_7 : Bool) (m1_0 : Int) (m1_1 : Int) (m1_2 : Int) (m1_3 : Int) (m1_4 : Int) (m1_5 : Int) (m1_6 : Int) (m1_7 : Bool) (m2 : (List Int)) (m3 : (List Int)), (Lfix C_lodgerref28_one (clD C_lodgerref28_one 0) (hdOf C_lodgerref28_one hd_lodgerref28_one) (finW C_lodgerref28_one 24 [(Ty.st 6)] (res1 (Ty.st 6))) n (todoOf C_lodgerref28_one 24 1) (h1_lodgerref28_one s3 s5 m0_0 m0_1 m0_2 m0_3 m0_4 m0_5 m0_6 m0_7 m1_0 m1_1 m1_2 m1_3 m1_4 m1_5 m1_6 m1_7 m2 m3)).opt = lodgerref28_one_l1 n s3 s5 m0_0 m0_1 m0_2 m0_3 m0_4 m0_5 m0_6 m0_7 m1_0 m1_1 m1_2 m1_3 m1_4 m1_5 m1_6 m1_7 m2 m3)
  | 0 => ⟨fun _ _ _ _ _ _ _ _ _ _ _ _ _ _ _ _ _ _ _ => rfl, fun _ _ _ _ _ _ _ _ _ _ _ _ _ _ _ _ _ _ _ _ => rfl⟩
  | n + 1 => by
    have ih := fx_lodgerref28_one n
    have e0 : (fun s3 s5 m0_0 m0_1 m0_2 m0_3 m0_4 m0_5 m0_6 m0_7 m1_0 m1_1 m1_2 m1_3 m1_4 m1_5 m1_6 m1_7 m2 => (Lfix C_lodgerref28_one (clD C_lodgerref28_one 0) (hdOf C_lodgerref28_one hd_lodgerref28_one) (finW C_lodgerref28_one 24 [(Ty.st 6)] (res1 (Ty.st 6))) n (todoOf C_lodgerref28_one 24 0) (h0_lodgerref28_one s3 s5 m0_0 m0_1 m0_2 m0_3 m0_4 m0_5 m0_6 m0_7 m1_0 m1_1 m1_2 m1_3 m1_4 m1_5 m1_6 m1_7 m2)).opt) = lodgerref28_one_l0 n := funext fun s3 => funext fun s5 => funext fun m0_0 => funext fun m0_1 => funext fun m0_2 => funext fun m0_3 => funext fun m0_4 => funext fun m0_5 => funext fun m0_6 => funext fun m0_7 => funext fun m1_0 => funext fun m1_1 => funext fun m1_2 => funext fun m1_3 => funext fun m1_4 => funext fun m1_5 => funext fun m1_6 => funext fun m1_7 => funext fun m2 => ih.1 s3 s5 m0_0 m0_1 m0_2 m0_3 m0_4 m0_5 m0_6 m0_7 m1_0 m1_1 m1_2 m1_3 m1_4 m1_5 m1_6 m1_7 m2
    have e1 : (fun s3 s5 m0_0 m0_1 m0_2 m0_3 m0_4 m0_5 m0_6 m0_7 m1_0 m1_1 m1_2 m1_3 m1_4 m1_5 m1_6 m1_7 m2 m3 => (Lfix C_lodgerref28_one (clD C_lodgerref28_one 0) (hdOf C_lodgerref28_one hd_lodgerref28_one) (finW C_lodgerref28_one 24 [(Ty.st 6)] (res1 (Ty.st 6))) n (todoOf C_lodgerref28_one 24 1) (h1_lodgerref28_one s3 s5 m0_0 m0_1 m0_2 m0_3 m0_4 m0_5 m0_6 m0_7 m1_0 m1_1 m1_2 m1_3 m1_4 m1_5 m1_6 m1_7 m2 m3)).opt) = lodgerref28_one_l1 n := funext fun s3 => funext fun s5 => funext fun m0_0 => funext fun m0_1 => funext fun m0_2 => funext fun m0_3 => funext fun m0_4 => funext fun m0_5 => funext fun m0_6 => funext fun m0_7 => funext fun m1_0 => funext fun m1_1 => funext fun m1_2 => funext fun m1_3 => funext fun m1_4 => funext fun m1_5 => funext fun m1_6 => funext fun m1_7 => funext fun m2 => funext fun m3 => ih.2 s3 s5 m0_0 m0_1 m0_2 m0_3 m0_4 m0_5 m0_6 m0_7 m1_0 m1_1 m1_2 m1_3 m1_4 m1_5 m1_6 m1_7 m2 m3
    exact ⟨fun s3 s5 m0_0 m0_1 m0_2 m0_3 m0_4 m0_5 m0_6 m0_7 m1_0 m1_1 m1_2 m1_3 m1_4 m1_5 m1_6 m1_7 m2 => (congrArg D.opt (Lfix_round C_lodgerref28_one (clD C_lodgerref28_one 0) (hdOf C_lodgerref28_one hd_lodgerref28_one) 24 0 [(Ty.st 6)] (res1 (Ty.st 6)) n _)).trans ((rd0_lodgerref28_one (Lfix C_lodgerref28_one (clD C_lodgerref28_one 0) (hdOf C_lodgerref28_one hd_lodgerref28_one) (finW C_lodgerref28_one 24 [(Ty.st 6)] (res1 (Ty.st 6))) n) s3 s5 m0_0 m0_1 m0_2 m0_3 m0_4 m0_5 m0_6 m0_7 m1_0 m1_1 m1_2 m1_3 m1_4 m1_5 m1_6 m1_7 m2).trans ((congrArg (fun x => lodgerref28_one_s0  x (fun s3 s5 m0_0 m0_1 m0_2 m0_3 m0_4 m0_5 m0_6 m0_7 m1_0 m1_1 m1_2 m1_3 m1_4 m1_5 m1_6 m1_7 m2 m3 => (Lfix C_lodgerref28_one (clD C_lodgerref28_one 0) (hdOf C_lodgerref28_one hd_lodgerref28_one) (finW C_lodgerref28_one 24 [(Ty.st 6)] (res1 (Ty.st 6))) n (todoOf C_lodgerref28_one 24 1) (h1_lodgerref28_one s3 s5 m0_0 m0_1 m0_2 m0_3 m0_4 m0_5 m0_6 m0_7 m1_0 m1_1 m1_2 m1_3 m1_4 m1_5 m1_6 m1_7 m2 m3)).opt) s3 s5 m0_0 m0_1 m0_2 m0_3 m0_4 m0_5 m0_6 m0_7 m1_0 m1_1 m1_2 m1_3 m1_4 m1_5 m1_6 m1_7 m2) e0).trans (congrArg (fun x => lodgerref28_one_s0 (lodgerref28_one_l0 n) x  s3 s5 m0_0 m0_1 m0_2 m0_3 m0_4 m0_5 m0_6 m0_7 m1_0 m1_1 m1_2 m1_3 m1_4 m1_5 m1_6 m1_7 m2) e1))), fun s3 s5 m0_0 m0_1 m0_2 m0_3 m0_4 m0_5 m0_6 m0_7 m1_0 m1_1 m1_2 m1_3 m1_4 m1_5 m1_6 m1_7 m2 m3 => (congrArg D.opt (Lfix_round C_lodgerref28_one (clD C_lodgerref28_one 0) (hdOf C_lodgerref28_one hd_lodgerref28_one) 24 1 [(Ty.st 6)] (res1 (Ty.st 6)) n _)).trans ((rd1_lodgerref28_one (Lfix C_lodgerref28_one (clD C_lodgerref28_one 0) (hdOf C_lodgerref28_one hd_lodgerref28_one) (finW C_lodgerref28_one 24 [(Ty.st 6)] (res1 (Ty.st 6))) n) s3 s5 m0_0 m0_1 m0_2 m0_3 m0_4 m0_5 m0_6 m0_7 m1_0 m1_1 m1_2 m1_3 m1_4 m1_5 m1_6 m1_7 m2 m3).trans ((congrArg (fun x => lodgerref28_one_s1  x (fun s3 s5 m0_0 m0_1 m0_2 m0_3 m0_4 m0_5 m0_6 m0_7 m1_0 m1_1 m1_2 m1_3 m1_4 m1_5 m1_6 m1_7 m2 m3 => (Lfix C_lodgerref28_one (clD C_lodgerref28_one 0) (hdOf C_lodgerref28_one hd_lodgerref28_one) (finW C_lodgerref28_one 24 [(Ty.st 6)] (res1 (Ty.st 6))) n (todoOf C_lodgerref28_one 24 1) (h1_lodgerref28_one s3 s5 m0_0 m0_1 m0_2 m0_3 m0_4 m0_5 m0_6 m0_7 m1_0 m1_1 m1_2 m1_3 m1_4 m1_5 m1_6 m1_7 m2 m3)).opt) s3 s5 m0_0 m0_1 m0_2 m0_3 m0_4 m0_5 m0_6 m0_7 m1_0 m1_1 m1_2 m1_3 m1_4 m1_5 m1_6 m1_7 m2 m3) e0).trans (congrArg (fun x => lodgerref28_one_s1 (lodgerref28_one_l0 n) x  s3 s5 m0_0 m0_1 m0_2 m0_3 m0_4 m0_5 m0_6 m0_7 m1_0 m1_1 m1_2 m1_3 m1_4 m1_5 m1_6 m1_7 m2 m3) e1)))⟩
theorem ev_lodgerref28_one (n : Nat) (a0 : (List UInt8)) : (runF C_lodgerref28_one (clD C_lodgerref28_one 0) (hdOf C_lodgerref28_one hd_lodgerref28_one) 24 [(Ty.st 6)] (res1 (Ty.st 6)) n [encV E Ty.str a0]).opt = lodgerref28_one_n n a0 := by
  have ih := fx_lodgerref28_one n
  have e0 : (fun s3 s5 m0_0 m0_1 m0_2 m0_3 m0_4 m0_5 m0_6 m0_7 m1_0 m1_1 m1_2 m1_3 m1_4 m1_5 m1_6 m1_7 m2 => (Lfix C_lodgerref28_one (clD C_lodgerref28_one 0) (hdOf C_lodgerref28_one hd_lodgerref28_one) (finW C_lodgerref28_one 24 [(Ty.st 6)] (res1 (Ty.st 6))) n (todoOf C_lodgerref28_one 24 0) (h0_lodgerref28_one s3 s5 m0_0 m0_1 m0_2 m0_3 m0_4 m0_5 m0_6 m0_7 m1_0 m1_1 m1_2 m1_3 m1_4 m1_5 m1_6 m1_7 m2)).opt) = lodgerref28_one_l0 n := funext fun s3 => funext fun s5 => funext fun m0_0 => funext fun m0_1 => funext fun m0_2 => funext fun m0_3 => funext fun m0_4 => funext fun m0_5 => funext fun m0_6 => funext fun m0_7 => funext fun m1_0 => funext fun m1_1 => funext fun m1_2 => funext fun m1_3 => funext fun m1_4 => funext fun m1_5 => funext fun m1_6 => funext fun m1_7 => funext fun m2 => ih.1 s3 s5 m0_0 m0_1 m0_2 m0_3 m0_4 m0_5 m0_6 m0_7 m1_0 m1_1 m1_2 m1_3 m1_4 m1_5 m1_6 m1_7 m2
  have e1 : (fun s3 s5 m0_0 m0_1 m0_2 m0_3 m0_4 m0_5 m0_6 m0_7 m1_0 m1_1 m1_2 m1_3 m1_4 m1_5 m1_6 m1_7 m2 m3 => (Lfix C_lodgerref28_one (clD C_lodgerref28_one 0) (hdOf C_lodgerref28_one hd_lodgerref28_one) (finW C_lodgerref28_one 24 [(Ty.st 6)] (res1 (Ty.st 6))) n (todoOf C_lodgerref28_one 24 1) (h1_lodgerref28_one s3 s5 m0_0 m0_1 m0_2 m0_3 m0_4 m0_5 m0_6 m0_7 m1_0 m1_1 m1_2 m1_3 m1_4 m1_5 m1_6 m1_7 m2 m3)).opt) = lodgerref28_one_l1 n := funext fun s3 => funext fun s5 => funext fun m0_0 => funext fun m0_1 => funext fun m0_2 => funext fun m0_3 => funext fun m0_4 => funext fun m0_5 => funext fun m0_6 => funext fun m0_7 => funext fun m1_0 => funext fun m1_1 => funext fun m1_2 => funext fun m1_3 => funext fun m1_4 => funext fun m1_5 => funext fun m1_6 => funext fun m1_7 => funext fun m2 => funext fun m3 => ih.2 s3 s5 m0_0 m0_1 m0_2 m0_3 m0_4 m0_5 m0_6 m0_7 m1_0 m1_1 m1_2 m1_3 m1_4 m1_5 m1_6 m1_7 m2 m3
  exact (congrArg D.opt (runF_eq C_lodgerref28_one (clD C_lodgerref28_one 0) (hdOf C_lodgerref28_one hd_lodgerref28_one) 24 [(Ty.st 6)] (res1 (Ty.st 6)) n _)).trans ((en_lodgerref28_one (Lfix C_lodgerref28_one (clD C_lodgerref28_one 0) (hdOf C_lodgerref28_one hd_lodgerref28_one) (finW C_lodgerref28_one 24 [(Ty.st 6)] (res1 (Ty.st 6))) n) a0).trans ((congrArg (fun x => lodgerref28_one_e  x (fun s3 s5 m0_0 m0_1 m0_2 m0_3 m0_4 m0_5 m0_6 m0_7 m1_0 m1_1 m1_2 m1_3 m1_4 m1_5 m1_6 m1_7 m2 m3 => (Lfix C_lodgerref28_one (clD C_lodgerref28_one 0) (hdOf C_lodgerref28_one hd_lodgerref28_one) (finW C_lodgerref28_one 24 [(Ty.st 6)] (res1 (Ty.st 6))) n (todoOf C_lodgerref28_one 24 1) (h1_lodgerref28_one s3 s5 m0_0 m0_1 m0_2 m0_3 m0_4 m0_5 m0_6 m0_7 m1_0 m1_1 m1_2 m1_3 m1_4 m1_5 m1_6 m1_7 m2 m3)).opt) a0) e0).trans (congrArg (fun x => lodgerref28_one_e (lodgerref28_one_l0 n) x  a0) e1)))
theorem ok_lodgerref28_one : SpecOK C_lodgerref28_one 24 sp_lodgerref28_one := by
  have hS := specs_ok (C := C_lodgerref28_one) (l := us_lodgerref28_one) rfl ⟨ok_lodgerref28_words.re rfl rfl rfl, ok_lodgerref28_num.re rfl rfl rfl, ok_lodgerref04_Parse.re rfl rfl rfl, trivial⟩
  refine spec_ok (C := C_lodgerref28_one) (cl := (clD C_lodgerref28_one 0)) (hd := (hdOf C_lodgerref28_one hd_lodgerref28_one)) envOK (tyOK_of (l := tab) rfl tabT) hS (clD_ok envOK (tyOK_of (l := tab) rfl tabT) hS mixed (inl_ok (l := []) rfl (by kernel_rfl)) _) mixed (hdOf_ok envOK hd_lodgerref28_one) (by kernel_rfl) [(Ty.st 6)] (res1 (Ty.st 6)) (de1 (S := S) (Ty.st 6)) fun cs r h => ?_
  obtain ⟨a0, rfl, h⟩ := inv1 h
  exact ⟨big, (ev_lodgerref28_one big a0).trans ((def_lodgerref28_one a0).symm.trans h)⟩
-- lodger/lodgerref28.Get
def lodgerref28_Get_s0b (g_lodgerref28_Put : (List Event) → Option ((List UInt8) × Int)) (g_lodgerref28_one : (List UInt8) → Option (Event)) (k0 : (List UInt8) → Int → Int → (List Event) → Option ((List Event) × Int)) (s0 : (List UInt8)) (s5 : Int) (s6 : Int) (m0 : (List Event)) : Option ((List Event) × Int) := (bif (decide (s6 < (List.length s0 : Int))) then ((geti s0 s6).bind fun b1 => (bif ((b1.toNat : Int) == 10) then (bif (decide ((0 : Int) ≤ s5 ∧ s5 ≤ s6 ∧ s6 ≤ (s0.length : Int))) then ((g_lodgerref28_one ((s0.drop (Int.toNat s5)).take (Int.toNat s6 - Int.toNat s5))).bind fun r2 => (bif (decide (m0.length + ([r2] : List Event).length ≤ maxList)) then k0 s0 (IntKind.wrap .i64 (s6 + 1)) (IntKind.wrap .i64 (s6 + 1)) (m0 ++ ([r2] : List Event)) else none)) else none) else k0 s0 s5 (IntKind.wrap .i64 (s6 + 1)) m0)) else ((g_lodgerref28_Put m0).bind fun r3 => (bif (r3.2 != 0) then some ([], 2) else (bif (!(r3.1 == s0)) then some ([], 2) else some (m0, 0)))))
def lodgerref28_Get_eb (g_lodgerref28_Put : (List Event) → Option ((List UInt8) × Int)) (g_lodgerref28_one : (List UInt8) → Option (Event)) (k0 : (List UInt8) → Int → Int → (List Event) → Option ((List Event) × Int)) (a0 : (List UInt8)) : Option ((List Event) × Int) := k0 a0 0 0 ([] : (List Event))
def sp_lodgerref28_Get : Spec S := { args := [Ty.str], R := (List Event) × Int, run := run1 Ty.str lodgerref28_Get, enc := enc2 (S := S) (Ty.slice (Ty.st 6)) i64 }
def spb_lodgerref28_Get (F : (List UInt8) → Option ((List Event) × Int)) : Spec S := { args := [Ty.str], R := (List Event) × Int, run := run1 Ty.str F, enc := enc2 (S := S) (Ty.slice (Ty.st 6)) i64 }
def usb_lodgerref28_Get (g_lodgerref28_Put : (List Event) → Option ((List UInt8) × Int)) (g_lodgerref28_one : (List UInt8) → Option (Event)) : List (Nat × Spec S) := [(10, spb_lodgerref28_Put g_lodgerref28_Put), (24, spb_lodgerref28_one g_lodgerref28_one)]
def us_lodgerref28_Get : List (Nat × Spec S) := [(10, sp_lodgerref28_Put), (24, sp_lodgerref28_one)]
noncomputable def Cb_lodgerref28_Get (g_lodgerref28_Put : (List Event) → Option ((List UInt8) × Int)) (g_lodgerref28_one : (List UInt8) → Option (Event)) : Ctx S := { P := Tryd.prog, E := E, ty := tyL tab, G := glL gtab, spec := spL (usb_lodgerref28_Get g_lodgerref28_Put g_lodgerref28_one), inl := inL [] }
noncomputable def C_lodgerref28_Get : Ctx S := Cb_lodgerref28_Get lodgerref28_Put lodgerref28_one
def hd_lodgerref28_Get : List ((Nat × Nat) × List Hs) := [((2, 4), [.promo 4 43 (Ty.st 6), .canon 1 [0] [0, 4, 5, 6], .plain 0 Ty.str, .plain 5 i64, .plain 6 i64])]
def h0_lodgerref28_Get (s0 : (List UInt8)) (s5 : Int) (s6 : Int) (m0 : (List Event)) : St S := { tmps := [.cell Ty.str s0, .undef, .undef, .undef, .own 0 0, .cell i64 s5, .cell i64 s6, .undef, .undef, .undef, .undef, .undef, .undef, .undef, .undef, .undef, .undef, .undef, .undef, .undef, .undef, .undef, .undef, .undef, .undef, .undef, .undef, .undef, .undef, .undef, .undef, .undef, .undef, .undef, .undef, .undef, .undef, .undef, .undef, .undef, .undef, .undef], mem := [.arr 43 (Ty.st 6) m0 0 false] }
theorem rdb0_lodgerref28_Get (g_lodgerref28_Put : (List Event) → Option ((List UInt8) × Int)) (g_lodgerref28_one : (List UInt8) → Option (Event)) (L : Lp S ((List Event) × Int)) (s0 : (List UInt8)) (s5 : Int) (s6 : Int) (m0 : (List Event)) : (roundWF (Cb_lodgerref28_Get g_lodgerref28_Put g_lodgerref28_one) (clDF (Cb_lodgerref28_Get g_lodgerref28_Put g_lodgerref28_one) 0) (hdOf (Cb_lodgerref28_Get g_lodgerref28_Put g_lodgerref28_one) hd_lodgerref28_Get) 12 0 [(Ty.slice (Ty.st 6)), i64] (res2 (Ty.slice (Ty.st 6)) i64) L (h0_lodgerref28_Get s0 s5 s6 m0)).opt = lodgerref28_Get_s0b g_lodgerref28_Put g_lodgerref28_one (fun s0 s5 s6 m0 => (L (todoOf (Cb_lodgerref28_Get g_lodgerref28_Put g_lodgerref28_one) 12 0) (h0_lodgerref28_Get s0 s5 s6 m0)).opt) s0 s5 s6 m0 := by kernel_rfl
theorem rd0_lodgerref28_Get (L : Lp S ((List Event) × Int)) (s0 : (List UInt8)) (s5 : Int) (s6 : Int) (m0 : (List Event)) : (roundW C_lodgerref28_Get (clD C_lodgerref28_Get 0) (hdOf C_lodgerref28_Get hd_lodgerref28_Get) 12 0 [(Ty.slice (Ty.st 6)), i64] (res2 (Ty.slice (Ty.st 6)) i64) L (h0_lodgerref28_Get s0 s5 s6 m0)).opt = lodgerref28_Get_s0 (fun s0 s5 s6 m0 => (L (todoOf C_lodgerref28_Get 12 0) (h0_lodgerref28_Get s0 s5 s6 m0)).opt) s0 s5 s6 m0 := (congrArg D.opt (roundWF_eq _ _ _ _ _ _ _ L _)).trans (rdb0_lodgerref28_Get lodgerref28_Put lodgerref28_one L s0 s5 s6 m0)
theorem enb_lodgerref28_Get (g_lodgerref28_Put : (List Event) → Option ((List UInt8) × Int)) (g_lodgerref28_one : (List UInt8) → Option (Event)) (L : Lp S ((List Event) × Int)) (a0 : (List UInt8)) : (runWF (Cb_lodgerref28_Get g_lodgerref28_Put g_lodgerref28_one) (clDF (Cb_lodgerref28_Get g_lodgerref28_Put g_lodgerref28_one) 0) (fun _ => canonL (hdOf (Cb_lodgerref28_Get g_lodgerref28_Put g_lodgerref28_one) hd_lodgerref28_Get) L) 12 [(Ty.slice (Ty.st 6)), i64] (res2 (Ty.slice (Ty.st 6)) i64) [encV E Ty.str a0]).opt = lodgerref28_Get_eb g_lodgerref28_Put g_lodgerref28_one (fun s0 s5 s6 m0 => (L (todoOf (Cb_lodgerref28_Get g_lodgerref28_Put g_lodgerref28_one) 12 0) (h0_lodgerref28_Get s0 s5 s6 m0)).opt) a0 := by kernel_rfl
theorem en_lodgerref28_Get (L : Lp S ((List Event) × Int)) (a0 : (List UInt8)) : (runW C_lodgerref28_Get (clD C_lodgerref28_Get 0) (fun _ => canonL (hdOf C_lodgerref28_Get hd_lodgerref28_Get) L) 12 [(Ty.slice (Ty.st 6)), i64] (res2 (Ty.slice (Ty.st 6)) i64) [encV E Ty.str a0]).opt = lodgerref28_Get_e (fun s0 s5 s6 m0 => (L (todoOf C_lodgerref28_Get 12 0) (h0_lodgerref28_Get s0 s5 s6 m0)).opt) a0 := (congrArg D.opt (runWF_eq _ _ _ _ _ _ _)).trans (enb_lodgerref28_Get lodgerref28_Put lodgerref28_one L a0)
theorem fx_lodgerref28_Get : ∀ n, (∀ (s0 : (List UInt8)) (s5 : Int) (s6 : Int) (m0 : (List Event)), (Lfix C_lodgerref28_Get (clD C_lodgerref28_Get 0) (hdOf C_lodgerref28_Get hd_lodgerref28_Get) (finW C_lodgerref28_Get 12 [(Ty.slice (Ty.st 6)), i64] (res2 (Ty.slice (Ty.st 6)) i64)) n (todoOf C_lodgerref28_Get 12 0) (h0_lodgerref28_Get s0 s5 s6 m0)).opt = lodgerref28_Get_l0 n s0 s5 s6 m0)
  | 0 => fun _ _ _ _ => rfl
  | n + 1 => by
    have ih := fx_lodgerref28_Get n
    have e0 : (fun s0 s5 s6 m0 => (Lfix C_lodgerref28_Get (clD C_lodgerref28_Get 0) (hdOf C_lodgerref28_Get hd_lodgerref28_Get) (finW C_lodgerref28_Get 12 [(Ty.slice (Ty.st 6)), i64] (res2 (Ty.slice (Ty.st 6)) i64)) n (todoOf C_lodgerref28_Get 12 0) (h0_lodgerref28_Get s0 s5 s6 m0)).opt) = lodgerref28_Get_l0 n := funext fun s0 => funext fun s5 => funext fun s6 => funext fun m0 => ih s0 s5 s6 m0
    exact fun s0 s5 s6 m0 => (congrArg D.opt (Lfix_round C_lodgerref28_Get (clD C_lodgerref28_Get 0) (hdOf C_lodgerref28_Get hd_lodgerref28_Get) 12 0 [(Ty.slice (Ty.st 6)), i64] (res2 (Ty.slice (Ty.st 6)) i64) n _)).trans ((rd0_lodgerref28_Get (Lfix C_lodgerref28_Get (clD C_lodgerref28_Get 0) (hdOf C_lodgerref28_Get hd_lodgerref28_Get) (finW C_lodgerref28_Get 12 [(Ty.slice (Ty.st 6)), i64] (res2 (Ty.slice (Ty.st 6)) i64)) n) s0 s5 s6 m0).trans (congrArg (fun x => lodgerref28_Get_s0  x  s0 s5 s6 m0) e0))
theorem ev_lodgerref28_Get (n : Nat) (a0 : (List UInt8)) : (runF C_lodgerref28_Get (clD C_lodgerref28_Get 0) (hdOf C_lodgerref28_Get hd_lodgerref28_Get) 12 [(Ty.slice (Ty.st 6)), i64] (res2 (Ty.slice (Ty.st 6)) i64) n [encV E Ty.str a0]).opt = lodgerref28_Get_n n a0 := by
  have ih := fx_lodgerref28_Get n
  have e0 : (fun s0 s5 s6 m0 => (Lfix C_lodgerref28_Get (clD C_lodgerref28_Get 0) (hdOf C_lodgerref28_Get hd_lodgerref28_Get) (finW C_lodgerref28_Get 12 [(Ty.slice (Ty.st 6)), i64] (res2 (Ty.slice (Ty.st 6)) i64)) n (todoOf C_lodgerref28_Get 12 0) (h0_lodgerref28_Get s0 s5 s6 m0)).opt) = lodgerref28_Get_l0 n := funext fun s0 => funext fun s5 => funext fun s6 => funext fun m0 => ih s0 s5 s6 m0
  exact (congrArg D.opt (runF_eq C_lodgerref28_Get (clD C_lodgerref28_Get 0) (hdOf C_lodgerref28_Get hd_lodgerref28_Get) 12 [(Ty.slice (Ty.st 6)), i64] (res2 (Ty.slice (Ty.st 6)) i64) n _)).trans ((en_lodgerref28_Get (Lfix C_lodgerref28_Get (clD C_lodgerref28_Get 0) (hdOf C_lodgerref28_Get hd_lodgerref28_Get) (finW C_lodgerref28_Get 12 [(Ty.slice (Ty.st 6)), i64] (res2 (Ty.slice (Ty.st 6)) i64)) n) a0).trans (congrArg (fun x => lodgerref28_Get_e  x  a0) e0))
theorem ok_lodgerref28_Get : SpecOK C_lodgerref28_Get 12 sp_lodgerref28_Get := by
  have hS := specs_ok (C := C_lodgerref28_Get) (l := us_lodgerref28_Get) rfl ⟨ok_lodgerref28_Put.re rfl rfl rfl, ok_lodgerref28_one.re rfl rfl rfl, trivial⟩
  refine spec_ok (C := C_lodgerref28_Get) (cl := (clD C_lodgerref28_Get 0)) (hd := (hdOf C_lodgerref28_Get hd_lodgerref28_Get)) envOK (tyOK_of (l := tab) rfl tabT) hS (clD_ok envOK (tyOK_of (l := tab) rfl tabT) hS mixed (inl_ok (l := []) rfl (by kernel_rfl)) _) mixed (hdOf_ok envOK hd_lodgerref28_Get) (by kernel_rfl) [(Ty.slice (Ty.st 6)), i64] (res2 (Ty.slice (Ty.st 6)) i64) (de2 (S := S) (Ty.slice (Ty.st 6)) i64) fun cs r h => ?_
  obtain ⟨a0, rfl, h⟩ := inv1 h
  exact ⟨big, (ev_lodgerref28_Get big a0).trans ((def_lodgerref28_Get a0).symm.trans h)⟩
end Go.Lv.Ld
namespace Go.Lv.Ld
open Go Go.Lv Go.Proofs Go.RowKit
set_option linter.all false
set_option maxRecDepth 100000
-- tell.Put, by hand
def us_tell_Put : List (Nat × Spec S) := [(13, sp_tell_May), (18, sp_tell_line)]
noncomputable def Cb_tell_Put (gM : (List Event) → Option Bool) (gL : Event → Option (List UInt8)) : Ctx S := { P := Tryd.prog, E := E, ty := tyL tab, G := glL gtab, spec := spL [(13, spb_tell_May gM), (18, spb_tell_line gL)], inl := inL [] }
noncomputable def C_tell_Put : Ctx S := Cb_tell_Put tell_May tell_line
noncomputable def p9 : Code := cBody Tryd.f9
noncomputable def p9a : Code := cSnd p9
noncomputable def p9b : Code := cSnd p9a
noncomputable def p9c : Code := cSnd p9b
noncomputable def p9l : Code := cIn (cIn (cSnd (cFst p9c)))
noncomputable def p9_0 : Code := cFst p9
noncomputable def p9_1 : Code := cFst (cFst p9a)
noncomputable def p9_2 : Code := cFst (cIn (cSnd (cFst p9a)))
noncomputable def p9_3 : Array Oper := cOps (cFst p9b)
noncomputable def p9_4 : Array Oper := cOps (cFst (cFst p9c))
noncomputable def p9_5 : Code := cFst p9l
noncomputable def p9_6 : Code := cFst (cIn (cFst (cSnd (cSnd p9l))))
noncomputable def p9_7 : Array Oper := cOps (cSnd (cIn (cFst (cSnd (cSnd p9l)))))
noncomputable def p9_8 : Code := cSnd (cSnd (cSnd p9l))
noncomputable def p9_9 : Array Oper := cOps (cFst (cSnd p9c))
abbrev LV (l : List Event) : V S := .cell (.slice (.st 6)) l
def U : V S := .undef
def CS (x : List UInt8) : V S := .cell .str x
def CI (x : Int) : V S := .cell (.int .i64) x
def CB (x : Bool) : V S := .cell .bool x
def K4 : V S := .known 4 .undef
def s9a (l : List Event) : St S := { tmps := [LV l, U, CS [], CI 0, U, U, U, U, U, U, U, U, U, U, U, U, U, U, U, U, U], mem := [] }
def s9b (l : List Event) (b : Bool) : St S := { tmps := [LV l, U, CS [], CI 0, U, U, U, LV l, CB b, CB (not b), U, U, U, U, U, U, U, U, U, U, U], mem := [] }
def s9c (l : List Event) (b : Bool) : St S := { tmps := [LV l, U, CS [], CI 2, U, U, U, LV l, CB b, CB (not b), U, U, U, U, U, U, U, U, U, U, U], mem := [] }
def s9d (l : List Event) : St S := { tmps := [U, U, U, U, K4, U, U, U, U, U, .known 10 (LV l), CI (l.length : Int), CI 0, U, U, U, U, U, U, U, U], mem := [] }
def s9e (l : List Event) (N i : Int) : St S := { tmps := [U, U, U, U, K4, U, U, U, U, U, .known 10 (LV l), .known 11 (CI N), .known 12 (CI i), CB (decide (i < N)), U, U, U, U, U, U, U], mem := [] }
def s9f (l : List Event) (N i : Int) (e : Event) : St S := { tmps := [U, U, U, U, K4, U, .ptr 0 0, U, U, U, .known 10 (LV l), .known 11 (CI N), .known 12 (CI i), U, .ro (elemCells E (.st 6) e), encV E (.st 6) e, U, U, U, U, U], mem := [.box (elemCells E (.st 6) e) false] }
def s9g (l : List Event) (N i : Int) (e : Event) (x : List UInt8) : St S := { tmps := [U, U, U, U, K4, U, .ptr 0 0, U, U, U, .known 10 (LV l), .known 11 (CI N), .known 12 (CI i), U, .ro (elemCells E (.st 6) e), encV E (.st 6) e, encV E (.st 6) e, CS x, U, U, U], mem := [.box (elemCells E (.st 6) e) false] }
def s9h (l : List Event) (N i : Int) : St S := { tmps := [U, U, U, U, K4, U, U, U, U, U, .known 10 (LV l), .known 11 (CI N), CI (IntKind.wrap .i64 (i + 1)), U, U, U, U, U, U, CI (IntKind.wrap .i64 (i + 1)), U], mem := [] }
def s9i (x : List UInt8) : St S := { tmps := [U, U, CS x, CI 0, U, U, U, U, U, U, U, U, U, U, U, U, U, U, U, U, .known 20 (CS x)], mem := [] }
section
variable (gM : (List Event) → Option Bool) (gL : Event → Option (List UInt8))
theorem e9a (l : List Event) : (exC (Cb_tell_Put gM gL) (clD (Cb_tell_Put gM gL) 0) p9_0 (st0 Tryd.f9 [LV l] []) (fun s => .ret s)).opt = some (s9a l) := by kernel_rfl
theorem e9b (l : List Event) : (exC (Cb_tell_Put gM gL) (clD (Cb_tell_Put gM gL) 0) p9_1 (s9a l) (fun s => .ret s)).opt = (gM l).bind fun b => some (s9b l b) := by kernel_rfl
theorem e9c (l : List Event) (b : Bool) : (exC (Cb_tell_Put gM gL) (clD (Cb_tell_Put gM gL) 0) p9_2 (s9b l b) (fun s => .ret s)).opt = some (s9c l b) := by kernel_rfl
theorem e9d (l : List Event) : runL (Cb_tell_Put gM gL) (clD (Cb_tell_Put gM gL) 0) p9_4.toList [1, 2] (frS (pL4 (LV l))) = some (s9d l) := by kernel_rfl
theorem e9e (l : List Event) (N i : Int) : (exC (Cb_tell_Put gM gL) (clD (Cb_tell_Put gM gL) 0) p9_5 (frS (pL (LV l) N i)) (fun s => .ret s)).opt = some (s9e l N i) := by kernel_rfl
theorem e9f (l : List Event) (N i : Int) : (exC (Cb_tell_Put gM gL) (clD (Cb_tell_Put gM gL) 0) p9_6 (frS (pL (LV l) N i)) (fun s => .ret s)).opt = (geti l i).bind fun e => some (s9f l N i e) := by kernel_rfl
theorem e9g (l : List Event) (N i : Int) (e : Event) : runL (Cb_tell_Put gM gL) (clD (Cb_tell_Put gM gL) 0) p9_7.toList [0, 1] (s9f l N i e) =
    Option.bind (Option.map (fun p => ({ tmps := (s9g l N i e []).tmps.set 17 U, mem := (s9f l N i e).mem } : St S).put (some 17) p) (Option.bind (gL e) fun x => some (CS x, (s9f l N i e).mem))) fun s => some s := by kernel_rfl
theorem e9h (l : List Event) (N i : Int) : (exC (Cb_tell_Put gM gL) (clD (Cb_tell_Put gM gL) 0) p9_8 (frS (pL (LV l) N i)) (fun s => .ret s)).opt = some (s9h l N i) := by kernel_rfl
theorem e9i (x : List UInt8) : runL (Cb_tell_Put gM gL) (clD (Cb_tell_Put gM gL) 0) p9_9.toList [1, 2] (frS (pL9 x)) = some (s9i x) := by kernel_rfl
theorem f9c (l : List Event) (b : Bool) : (finR (Cb_tell_Put gM gL) Tryd.f9 [Ty.str, i64] (res2 Ty.str i64) (s9c l b)).opt = some (([] : List UInt8), (2 : Int)) := by kernel_rfl
theorem f9i (x : List UInt8) : (finR (Cb_tell_Put gM gL) Tryd.f9 [Ty.str, i64] (res2 Ty.str i64) (s9i x)).opt = some (x, (0 : Int)) := by kernel_rfl
end
theorem cat_inv : ∀ (l : List Event) (s : List UInt8), tell_cat l = some s → ∃ xs : List (List UInt8), xs.length = l.length ∧ xs.flatten = s ∧ ∀ (j : Nat) (x : List UInt8), xs[j]? = some x → ∃ e, l[j]? = some e ∧ tell_line e = some x
  | [], s, h => by
    simp only [tell_cat, Option.some.injEq] at h
    subst h
    exact ⟨[], rfl, rfl, fun j x hj => by simp at hj⟩
  | e :: l, s, h => by
    simp only [tell_cat] at h
    cases h1 : tell_line e with
    | none => rw [h1] at h; cases h
    | some x =>
      rw [h1] at h
      cases h2 : tell_cat l with
      | none => rw [h2] at h; cases h
      | some y =>
        rw [h2] at h
        simp only [Option.bind_some, Option.some.injEq] at h
        obtain ⟨xs, q1, q2, q3⟩ := cat_inv l y h2
        refine ⟨x :: xs, by simp [q1], by simp [q2, h], fun j z hj => ?_⟩
        cases j with
        | zero => simp at hj; subst hj; exact ⟨e, rfl, h1⟩
        | succ j => simpa using q3 j z (by simpa using hj)
theorem item9 {l : List Event} {N : Nat} {j : Nat} {e : Event} {x : List UInt8} (hN : l.length = N) (hb : N ≤ 140737488355328) (he : l[j]? = some e) (hx : tell_line e = some x) :
    PItem C_tell_Put (clD C_tell_Put 0) (LV l) (N : Int) (j : Int) p9_5 p9_6 p9_8 p9_7 x := by
  have hj : j < N := by rw [← hN]; exact (List.getElem?_eq_some_iff.1 he).1
  have hd : decide ((j : Int) < (N : Int)) = true := decide_eq_true (by omega)
  have hw : IntKind.wrap .i64 ((j : Int) + 1) = (j : Int) + 1 := by rw [IntKind.wrap_i64]; omega
  have hg : geti l (j : Int) = some e := by unfold geti; rw [if_pos (by omega)]; exact he
  have e7 := e9g tell_May tell_line l (N : Int) (j : Int) e
  rw [hx] at e7
  have e5 := e9e tell_May tell_line l (N : Int) (j : Int)
  have e6 := e9f tell_May tell_line l (N : Int) (j : Int)
  rw [hg] at e6
  have e8 := e9h tell_May tell_line l (N : Int) (j : Int)
  refine ⟨⟨_, _, s9g l (N : Int) (j : Int) e x, _, e5, ?_, rfl, rfl, rfl, rfl, rfl, e6, e7, rfl, rfl, rfl, rfl, rfl, rfl, e8, rfl, rfl, rfl, rfl, ?_⟩⟩
  · show CB (decide ((j : Int) < (N : Int))) = _
    rw [hd]; rfl
  · show some (CI (IntKind.wrap .i64 ((j : Int) + 1))) = _
    rw [hw]; rfl
theorem end9 (l : List Event) (N : Nat) : PEnd C_tell_Put (clD C_tell_Put 0) (LV l) (N : Int) p9_5 :=
  ⟨_, e9e tell_May tell_line l (N : Int) (N : Int), by show CB (decide ((N : Int) < (N : Int))) = _; rw [decide_eq_false (by omega)]; rfl, rfl, rfl, rfl, rfl, rfl⟩
theorem put_wr (b : Nat) (bs x : List UInt8) (w : World) (h : Lib.IsBuilder 51 5 b b (Lib.byteCells bs) w) (hl : bs.length + x.length ≤ 140737488355328) (hb : b ≤ w.heap.size) :
    Calls Tryd.prog 17 #[.pointer (some ⟨b, 0, none⟩), .string ⟨x.toArray⟩] w fun e' w' => ∃ v, e' = .returned v ∧ Lib.IsBuilder 51 5 b b (Lib.byteCells (bs ++ x)) w' ∧ Below b w w' := by
  have := Any.Builder_WriteString (ρ := Tryd.lvstrings_Join_ren) { Tryd.lvstrings_Join with } ex_Builder b b (Lib.byteCells bs) ⟨x.toArray⟩ w h (by
    have e1 : (Lib.byteCells bs).length = bs.length := by simp [Lib.byteCells]
    have e2 : (⟨x.toArray⟩ : ByteArray).size = x.length := szB x
    rw [e1, e2]; exact hl) hb
  refine Calls.mono this ?_
  rintro e w' ⟨rfl, h1, h2⟩
  refine ⟨_, rfl, .inr ?_, h2⟩
  have e1 : Lib.byteCells (bs ++ x) = Lib.byteCells bs ++ Lib.strCells ⟨x.toArray⟩ := by
    rw [Lib.strCells_eq]; simp [Lib.byteCells]
  rw [e1]; exact h1
theorem put_st (b : Nat) (bs : List UInt8) (w : World) (h : Lib.IsBuilder 51 5 b b (Lib.byteCells bs) w) (hb : b ≤ w.heap.size) :
    Calls Tryd.prog 19 #[.pointer (some ⟨b, 0, none⟩)] w fun e' w' => ∃ v, e' = .returned v ∧ v = .string ⟨bs.toArray⟩ ∧ Below b w w' := by
  have := Any.Builder_String_any (ρ := Tryd.lvstrings_Join_ren) { Tryd.lvstrings_Join with } ex_Builder b b bs w h hb
  refine Calls.mono this ?_
  rintro e w' ⟨rfl, h2⟩
  exact ⟨_, rfl, rfl, h2⟩
theorem ok_tell_Put : SpecOK C_tell_Put 9 sp_tell_Put := by
  have hS := specs_ok (C := C_tell_Put) (l := us_tell_Put) rfl ⟨ok_tell_May.re rfl rfl rfl, ok_tell_line.re rfl rfl rfl, trivial⟩
  refine put_ok (T := 51) (e := 5) (C := C_tell_Put) (cl := clD C_tell_Put 0) (fn := Tryd.f9) (r0 := p9_0) (r1 := p9_1) (r2 := p9_2) (r5 := p9_5) (r6 := p9_6) (r8 := p9_8) (ops3 := p9_3) (ops4 := p9_4) (ops7 := p9_7) (ops9 := p9_9)
    envOK (tyOK_of (l := tab) rfl tabT) hS (clD_ok envOK (tyOK_of (l := tab) rfl tabT) hS mixed (inl_ok (l := []) rfl (by kernel_rfl)) _) mixed (by kernel_rfl) (by kernel_rfl) (lvEnters (by kernel_rfl))
    (by kernel_rfl) (by kernel_rfl) (by kernel_rfl) (by kernel_rfl) (by kernel_rfl) (by kernel_rfl) (by kernel_rfl) (by kernel_rfl) (by kernel_rfl) (by kernel_rfl) (by kernel_rfl) (by kernel_rfl) (by kernel_rfl) (by kernel_rfl)
    (gW := 17) (o7 := oAt p9_7 2) (at7 := #[51, 9]) (by kernel_rfl) (by kernel_rfl) (by kernel_rfl) (by kernel_rfl) (lvEnters (by kernel_rfl)) put_wr
    (o3 := oAt p9_3 0) (o4 := oAt p9_4 0) (by kernel_rfl) (by kernel_rfl) (by kernel_rfl) (by kernel_rfl) (by kernel_rfl) (alloc_run (z := .agg #[.pointer none, .slice none 0 0]) (by kernel_rfl) (by kernel_rfl))
    (by kernel_rfl) (by kernel_rfl) (by kernel_rfl) (by kernel_rfl) (by kernel_rfl) (move_run (by kernel_rfl))
    (gS := 19) (o9 := oAt p9_9 0) (at9 := #[51]) (by kernel_rfl) (by kernel_rfl) (by kernel_rfl) (by kernel_rfl) (by kernel_rfl) (by kernel_rfl) (lvEnters (by kernel_rfl)) put_st
    [Ty.str, i64] (res2 Ty.str i64) (de2 (S := S) Ty.str i64) fun cs r h => ?_
  obtain ⟨l, rfl, h⟩ := inv1 h
  have h : tell_Put l = some r := h
  unfold tell_Put at h
  cases h1 : tell_May l with
  | none => rw [h1] at h; cases h
  | some b =>
    rw [h1] at h
    have ea := e9a tell_May tell_line l
    have eb := e9b tell_May tell_line l
    rw [h1] at eb
    refine ⟨LV l, _, _, !b, ea, eb, rfl, fun hb => ?_, fun hb => ?_⟩
    · have hb' : b = false := by cases b <;> first | rfl | cases hb
      subst hb'
      cases h
      exact ⟨_, e9c tell_May tell_line l false, f9c tell_May tell_line l false⟩
    · have hb' : b = true := by cases b <;> first | rfl | cases hb
      subst hb'
      simp only [Option.bind_some, Bool.not_true, cond_false] at h
      cases h2 : tell_cat l with
      | none => rw [h2] at h; cases h
      | some s =>
        rw [h2] at h
        simp only [Option.bind_some] at h
        split at h
        · rename_i hbd
          cases h
          obtain ⟨xs, q1, q2, q3⟩ := cat_inv l s h2
          subst q2
          refine ⟨rfl, rfl, ⟨.slice (.st 6), l, rfl⟩, xs, s9d l, s9i xs.flatten, ?_, rfl, rfl, rfl, ?_, rfl, fun j x hj => ?_, end9 l _, hbd.1, e9i tell_May tell_line xs.flatten, f9i tell_May tell_line xs.flatten⟩
          · exact e9d tell_May tell_line l
          · rw [q1]; rfl
          · obtain ⟨e, he, hx⟩ := q3 j x hj
            exact item9 q1.symm (by rw [q1]; exact hbd.2) he hx
        · cases h
end Go.Lv.Ld
namespace Go.Lv.Ld
open Go Go.Lv Go.Proofs Go.RowKit
set_option linter.all false
set_option maxRecDepth 100000
-- tell.Get, by hand
def us_tell_Get : List (Nat × Spec S) := [(9, sp_tell_Put), (23, sp_tell_read), (57, sp_strings_Index)]
noncomputable def Cb_tell_Get (gP : (List Event) → Option (List UInt8 × Int)) (gR : List UInt8 → Option Event) (gI : List UInt8 → List UInt8 → Option Int) : Ctx S := { P := Tryd.prog, E := E, ty := tyL tab, G := glL gtab, spec := spL [(9, spb_tell_Put gP), (23, spb_tell_read gR), (57, spb_strings_Index gI)], inl := inL [22, 35] }
noncomputable def C_tell_Get : Ctx S := Cb_tell_Get tell_Put tell_read strings_Index
def cRF : Code → Code × Code
  | .rangeFunc _ _ a b => (a, b)
  | c => (c, c)
noncomputable def g11 : Code := cBody Tryd.f11
noncomputable def g11_0 : Code := cFst g11
noncomputable def g11_1 : Code := cFst (cSnd g11)
noncomputable def g11_2 : Code := cFst (cFst (cSnd (cSnd g11)))
noncomputable def g11_as : Code := (cRF (cIn (cSnd (cFst (cSnd (cSnd g11)))))).1
noncomputable def g11_bd : Code := (cRF (cIn (cSnd (cFst (cSnd (cSnd g11)))))).2
noncomputable def g11_t : Code := cSnd (cSnd (cSnd g11))
noncomputable def g11_6 : Code := cFst (cFst g11_t)
noncomputable def g11_7 : Code := cFst (cSnd (cFst g11_t))
noncomputable def g11_8 : Code := cFst (cIn (cSnd (cSnd (cFst g11_t))))
noncomputable def g11_9 : Code := cFst (cSnd g11_t)
noncomputable def i55 : Code := cBody Tryd.f55
noncomputable def i55_0 : Code := cFst (cFst i55)
noncomputable def i55_a : Code := cIn (cSnd (cFst i55))
noncomputable def i55_l : Code := cIn (cIn (cIn (cFst (cSnd i55))))
noncomputable def i55_5 : Code := cFst i55_l
noncomputable def i55_6 : Code := cFst (cFst (cSnd i55_l))
noncomputable def i55_7 : Code := cFst (cSnd (cSnd i55_l))
noncomputable def i55_8 : Array Oper := cOps (cFst (cFst (cSnd (cSnd (cSnd i55_l)))))
noncomputable def i55_9 : Code := cSnd (cSnd (cSnd (cSnd i55_l)))
noncomputable def i55_10 : Array Oper := cOps (cSnd (cSnd i55))
def rep (n : Nat) (l : List (V S)) : List (V S) := match n with
  | 0 => l
  | n + 1 => .undef :: rep n l
noncomputable def RC (v2 : Array Value) (r : Nat) : Loop := recOf 11 10 g11_as g11_bd v2 r
/-- Get's slots where the range begins. -/
def t11 (text : List UInt8) : List (V S) := [CS text, U, .nilS, CI 0, .ptr 0 0, U, U, U, CS text, .clo 55 [] [.ptr 2 0, .ptr 1 0, .ptr 3 0]] ++ rep 21 []
def m11 (text : List UInt8) : Mem S := [.box [.nilS] false, .box [CS text] false, .box [CS [10]] false, .box [CI 1] false]
def t11a (text : List UInt8) : List (V S) := [CS text, U, .nilS, CI 0] ++ rep 27 []
def t11b (text : List UInt8) : List (V S) := [CS text, U, .nilS, CI 0, .ptr 0 0] ++ rep 26 []
/-- The memory at the iterator's head. -/
def mH (rest : List UInt8) (out : List Event) (L : Loop) : Mem S := [.box [.own 6 0] false, .box [CS rest] false, .box [CS [10]] false, .box [CI 1] false, .oth (.deferred (some [])), .oth (.loop L), .arr 43 (.st 6) out 0 false]
def tH : List (V S) := [.yld 5, .ptr 2 0, .ptr 1 0, .ptr 3 0] ++ rep 48 []
def sH (rest : List UInt8) (out : List Event) (L : Loop) : St S := { tmps := tH, mem := mH rest out L }
def wr (i : Int) : Int := IntKind.wrap .i64 (i + 1)
def oneOf (rest : List UInt8) (i : Int) : List UInt8 := (rest.drop (Int.toNat 0)).take (Int.toNat (wr i) - Int.toNat 0)
def resOf (rest : List UInt8) (i : Int) : List UInt8 := (rest.drop (Int.toNat (wr i))).take (Int.toNat (rest.length : Int) - Int.toNat (wr i))
def t5 (rest : List UInt8) (i : Int) : List (V S) := (((tH.set 29 (CS rest)).set 30 (CS [10])).set 31 (CI i)).set 7 (CI i)
def t6 (rest : List UInt8) (i : Int) : List (V S) := ((t5 rest i).set 32 (CI i)).set 33 (CB (decide (i < 0)))
def t7 (rest : List UInt8) (i : Int) : List (V S) := ((((((t6 rest i).set 34 (CS rest)).set 35 (CI i)).set 36 (CI 1)).set 37 (CI (wr i))).set 38 (CS (oneOf rest i))).set 8 (CS (oneOf rest i))
def t8 (rest : List UInt8) (i : Int) : List (V S) := ((t7 rest i).set 39 (.yld 5)).set 40 (CS (oneOf rest i))
def t10 (rest : List UInt8) (i : Int) : List (V S) := ((t8 rest i).set 41 (CB true)).set 42 (CB false)
def t19 (rest : List UInt8) (i : Int) : List (V S) := ((((((t10 rest i).set 43 (CS rest)).set 44 (CI i)).set 45 (CS [10])).set 46 (CI 1)).set 47 (CI (wr i))).set 48 (CS (resOf rest i))
def u5 (text one : List UInt8) : List (V S) := ((t11 text).set 10 (CS one)).set 5 (CS one)
def u6 (text one : List UInt8) : List (V S) := ((u5 text one).set 11 (CS one)).set 12 (CB (not (one == [])))
def u7 (text one : List UInt8) (e : Event) : List (V S) := (((((u6 text one).set 13 (.own 6 0)).set 14 (CS one)).set 15 (encV E (.st 6) e)).set 16 (.full (.st 6) [e])).set 17 (.own 6 1)
/-- The memory with one event more. -/
def mA (rest : List UInt8) (out : List Event) (L : Loop) (e : Event) : Mem S := [.box [.own 6 1] false, .box [CS rest] false, .box [CS [10]] false, .box [CI 1] false, .oth (.deferred (some [])), .oth (.loop L), .arr 43 (.st 6) (out ++ [e]) 1 false]
section
variable (gP : (List Event) → Option (List UInt8 × Int)) (gR : List UInt8 → Option Event) (gI : List UInt8 → List UInt8 → Option Int)
theorem e11a (t : List UInt8) : (exC (Cb_tell_Get gP gR gI) (clD (Cb_tell_Get gP gR gI) 3) g11_0 (st0 Tryd.f11 [CS t] []) (fun s => .ret s)).opt = some { tmps := t11a t, mem := [] } := by kernel_rfl
theorem e11b (t : List UInt8) : (exC (Cb_tell_Get gP gR gI) (clD (Cb_tell_Get gP gR gI) 3) g11_1 { tmps := t11a t, mem := [] } (fun s => .ret s)).opt = some { tmps := t11b t, mem := [.box [.nilS] false] } := by kernel_rfl
theorem e11c (t : List UInt8) : (exC (Cb_tell_Get gP gR gI) (clD (Cb_tell_Get gP gR gI) 3) g11_2 { tmps := t11b t, mem := [.box [.nilS] false] } (fun s => .ret s)).opt = some { tmps := t11 t, mem := m11 t } := by kernel_rfl
theorem e55p (rest : List UInt8) (out : List Event) (L : Loop) : (exC (Cb_tell_Get gP gR gI) (clD (Cb_tell_Get gP gR gI) 3) i55_0 (sH rest out L) (fun s => .ret s)).opt = some { tmps := ((tH.set 9 (CS [10])).set 10 (CI 1)).set 11 (CB false), mem := mH rest out L } := by kernel_rfl
theorem e55a (rest : List UInt8) (out : List Event) (L : Loop) : (exC (Cb_tell_Get gP gR gI) (clD (Cb_tell_Get gP gR gI) 3) i55_5 (sH rest out L) (fun s => .ret s)).opt = (gI rest [10]).bind fun i => some { tmps := t5 rest i, mem := mH rest out L } := by kernel_rfl
theorem e55b (rest : List UInt8) (out : List Event) (L : Loop) (i : Int) : (exC (Cb_tell_Get gP gR gI) (clD (Cb_tell_Get gP gR gI) 3) i55_6 { tmps := t5 rest i, mem := mH rest out L } (fun s => .ret s)).opt = some { tmps := t6 rest i, mem := mH rest out L } := by kernel_rfl
theorem e55c (rest : List UInt8) (out : List Event) (L : Loop) (i : Int) : (exC (Cb_tell_Get gP gR gI) (clD (Cb_tell_Get gP gR gI) 3) i55_7 { tmps := t6 rest i, mem := mH rest out L } (fun s => .ret s)).opt = bif (decide ((0 : Int) ≤ 0 ∧ 0 ≤ wr i ∧ wr i ≤ (rest.length : Int))) then some { tmps := t7 rest i, mem := mH rest out L } else none := by kernel_rfl
theorem e55d (rest : List UInt8) (out : List Event) (L : Loop) (i : Int) : runL (Cb_tell_Get gP gR gI) (clD (Cb_tell_Get gP gR gI) 3) i55_8.toList [0, 1] { tmps := t7 rest i, mem := mH rest out L } = some { tmps := t8 rest i, mem := mH rest out L } := by kernel_rfl
theorem e55e (text one rest : List UInt8) (out : List Event) (L : Loop) : (exC (Cb_tell_Get gP gR gI) (clD (Cb_tell_Get gP gR gI) 3) g11_as { tmps := (t11 text).set 10 (CS one), mem := mH rest out L } (fun s => .ret s)).opt = some { tmps := u5 text one, mem := mH rest out L } := by kernel_rfl
theorem e55f (text one rest : List UInt8) (out : List Event) (L : Loop) : (exC (Cb_tell_Get gP gR gI) (clD (Cb_tell_Get gP gR gI) 3) g11_bd { tmps := u5 text one, mem := mH rest out L } (fun s => .ret s)).opt =
    bif (not (one == [])) then ((gR one).bind fun e => bif (decide (out.length + [e].length ≤ maxList)) then some { tmps := u7 text one e, mem := mA rest out L e } else none) else some { tmps := u6 text one, mem := mH rest out L } := by kernel_rfl
theorem e55g (rest : List UInt8) (out : List Event) (L : Loop) (i : Int) (e : Event) : runL (Cb_tell_Get gP gR gI) (clD (Cb_tell_Get gP gR gI) 3) i55_8.toList [3] { tmps := (t8 rest i).set 41 (CB true), mem := mA rest out L e } = some { tmps := t10 rest i, mem := mA rest out L e } := by kernel_rfl
theorem e55h (rest : List UInt8) (out : List Event) (L : Loop) (i : Int) (e : Event) : (exC (Cb_tell_Get gP gR gI) (clD (Cb_tell_Get gP gR gI) 3) i55_9 { tmps := t10 rest i, mem := mA rest out L e } (fun s => .ret s)).opt =
    bif (decide ((0 : Int) ≤ wr i ∧ wr i ≤ (rest.length : Int) ∧ (rest.length : Int) ≤ (rest.length : Int))) then some { tmps := t19 rest i, mem := mA (resOf rest i) out L e } else none := by kernel_rfl
theorem e55i (rest : List UInt8) (out : List Event) (L : Loop) (i : Int) : runL (Cb_tell_Get gP gR gI) (clD (Cb_tell_Get gP gR gI) 3) i55_10.toList [0, 1] { tmps := t6 rest i, mem := mH rest out L } = some { tmps := ((t6 rest i).set 49 (.yld 5)).set 50 (CS rest), mem := mH rest out L } := by kernel_rfl
theorem e11t (text : List UInt8) (rest : List UInt8) (out : List Event) (L : Loop) : (tailD (Cb_tell_Get gP gR gI) (clD (Cb_tell_Get gP gR gI) 3) g11_6 g11_7 g11_8 g11_9 (.tmp 29) (finD (Cb_tell_Get gP gR gI) Tryd.f11 [.slice (.st 6), i64] (res2 (.slice (.st 6)) i64) 4) { tmps := t11 text, mem := mH rest out L }).opt =
    (gP out).bind fun p => bif (!(p.2 == 0)) then some (([] : List Event), (2 : Int)) else bif (!(p.1 == text)) then some (([] : List Event), (2 : Int)) else some (out, (0 : Int)) := by kernel_rfl
end
theorem idx_lt : ∀ (s : List UInt8) (c : UInt8), Lib.indexByte s c < (s.length : Int)
  | [], _ => by simp [Lib.indexByte]
  | b :: l, c => by
    have := idx_lt l c
    unfold Lib.indexByte
    simp only [List.length_cons]
    split
    · omega
    · split <;> omega
theorem hS11 : ∀ f sp, C_tell_Get.spec f = some sp → SpecOK C_tell_Get f sp := specs_ok (C := C_tell_Get) (l := us_tell_Get) rfl ⟨ok_tell_Put.re rfl rfl rfl, ok_tell_read.re rfl rfl rfl, ok_strings_Index.re rfl rfl rfl, trivial⟩
theorem hT11 : TyOK C_tell_Get := tyOK_of (l := tab) rfl tabT
theorem hC11 : ClOK C_tell_Get (clD C_tell_Get 3) := clD_ok envOK hT11 hS11 mixed (inl_ok (l := [22, 35]) rfl (by kernel_rfl)) 3
noncomputable def b55 : Code := .block 3 (itBody i55_5 i55_6 i55_7 i55_9 (.tmp 33) (.tmp 42) 8 i55_8)
def f55 : Frame := { (default : Frame) with fn := 55, kind := .normal }
structure GI (B : Nat) (K0 : Gh) (w0 : World) (text rest : List UInt8) (out : List Event) (v2 : Array Value) (l r : Nat) (a : Act) (w : World) : Prop where
  ev : ∃ K, Ext K0 w0 K w ∧ Below B w0 w ∧ RelS C_tell_Get K w B (sH rest out (RC v2 r)) a ∧ RepL C_tell_Get.E K w v2 (t11 text) ∧ K.ι 5 = l ∧ K.ι 4 = r
theorem wr_of {rest : List UInt8} {i : Int} (h0 : 0 ≤ i) (h1 : i < (rest.length : Int)) (hb : rest.length ≤ 140737488355328) : wr i = i + 1 := by
  unfold wr
  rw [IntKind.wrap_i64]; omega
theorem one_of {rest : List UInt8} {i : Int} (h0 : 0 ≤ i) (h1 : i < (rest.length : Int)) (hb : rest.length ≤ 140737488355328) : oneOf rest i = rest.take (Int.toNat (i + 1)) := by
  unfold oneOf
  rw [wr_of h0 h1 hb]
  simp
theorem res_of {rest : List UInt8} {i : Int} (h0 : 0 ≤ i) (h1 : i < (rest.length : Int)) (hb : rest.length ≤ 140737488355328) : resOf rest i = rest.drop (Int.toNat (i + 1)) := by
  unfold resOf
  rw [wr_of h0 h1 hb]
  apply List.take_of_length_le
  simp
theorem turn_mA (rest : List UInt8) (out : List Event) (L : Loop) (e : Event) (tm : List (V S)) : canonS 7 [0, 1, 2, 3, 4, 5, 6] [] { tmps := tm, mem := mA rest out L e } = { tmps := convT (mA rest out L e) (keepF 7 [0, 1, 2, 3, 4, 5, 6]) (inL []) 0 tm, mem := mH rest (out ++ [e]) L } := by kernel_rfl
theorem turn_it (rest rest' : List UInt8) (i : Int) (out : List Event) (L : Loop) (e : Event) : canonS 7 [0, 1, 2, 3, 4, 5, 6] [0, 1, 2, 3] { tmps := t19 rest i, mem := mA rest' out L e } = sH rest' (out ++ [e]) L := by kernel_rfl
theorem turn_t11A (text rest : List UInt8) (out : List Event) (L : Loop) (e : Event) : (t11 text).map (convL (mA rest out L e) (keepF 7 [0, 1, 2, 3, 4, 5, 6])) = t11 text := by kernel_rfl
theorem turn_t11H (text rest : List UInt8) (out : List Event) (L : Loop) : (t11 text).map (convL (mH rest out L) (keepF 7 [0, 1, 2, 3, 4, 5, 6])) = t11 text := by kernel_rfl
section
variable {B : Nat} {K0 : Gh} {w0 : World} (h0 : K0.n = 0) {text : List UInt8} {v2 : Array Value} {l r : Nat}
include h0
theorem get_iter {rest : List UInt8} {out : List Event} {i : Int} {e : Event} (hi : Lib.indexByte rest 10 = i) (hi0 : 0 ≤ i) (hb : rest.length ≤ 140737488355328) (he : tell_read (rest.take (Int.toNat (i + 1))) = some e) (ho : out.length + 1 ≤ maxList) {a : Act} {w : World} (h : GI B K0 w0 text rest out v2 l r a w) (k : List Item) (cs : List Frame) :
    ∃ a' w', GI B K0 w0 text (rest.drop (Int.toNat (i + 1))) (out ++ [e]) v2 l r a' w' ∧ Steps Tryd.prog (lone (f55.atR a (.code b55 :: .inLoop b55 :: k)) cs w) (lone (f55.atR a' (.code b55 :: .inLoop b55 :: k)) cs w') := by
  obtain ⟨K, x1, x2, x3, x4, x5, x6⟩ := h.ev
  have hlt : i < (rest.length : Int) := by rw [← hi]; exact idx_lt rest 10
  have hne : rest ≠ [] := fun q => by subst q; simp at hlt; omega
  have e5 := e55a tell_Put tell_read strings_Index rest out (RC v2 r)
  have hI : strings_Index rest [10] = some i := by rw [← hi]; rfl
  rw [hI] at e5
  have e6 := e55b tell_Put tell_read strings_Index rest out (RC v2 r) i
  have hw := wr_of hi0 hlt hb
  have e7 := e55c tell_Put tell_read strings_Index rest out (RC v2 r) i
  have hd7 : decide ((0 : Int) ≤ 0 ∧ 0 ≤ wr i ∧ wr i ≤ (rest.length : Int)) = true := decide_eq_true (by rw [hw]; omega)
  rw [hd7] at e7
  have e8 := e55d tell_Put tell_read strings_Index rest out (RC v2 r) i
  have ea := e55e tell_Put tell_read strings_Index text (oneOf rest i) rest out (RC v2 r)
  have eb := e55f tell_Put tell_read strings_Index text (oneOf rest i) rest out { RC v2 r with state := .busy }
  have h1 : oneOf rest i = rest.take (Int.toNat (i + 1)) := one_of hi0 hlt hb
  have hn1 : (oneOf rest i == []) = false := by
    rw [h1]
    cases rest with
    | nil => exact absurd rfl hne
    | cons b q =>
      have : Int.toNat (i + 1) = Int.toNat i + 1 := by omega
      rw [this]; rfl
  have hd8 : decide (out.length + [e].length ≤ maxList) = true := decide_eq_true ho
  rw [hn1] at eb
  rw [h1, he] at eb
  simp only [Bool.not_false, cond_true, Option.bind_some] at eb
  rw [hd8] at eb
  have eg := e55g tell_Put tell_read strings_Index rest out (RC v2 r) i e
  have eh := e55h tell_Put tell_read strings_Index rest out (RC v2 r) i e
  have hd9 : decide ((0 : Int) ≤ wr i ∧ wr i ≤ (rest.length : Int) ∧ (rest.length : Int) ≤ (rest.length : Int)) = true := decide_eq_true (by rw [hw]; omega)
  rw [hd9] at eh
  rw [← h1] at eb
  obtain ⟨K', a', w', y1, y2, y3, y4, st⟩ := it_iter (C := C_tell_Get) (cl := clD C_tell_Get 3) (B := B) (iL := 5) (rec := RC v2 r) (p := 10) (t2 := t11 text) (v2 := v2) (ib := f55) (cs := cs) (r5 := i55_5) (r6 := i55_6) (r7 := i55_7) (r9 := i55_9) (c33 := .tmp 33) (c42 := .tmp 42) (id8 := 8) (ops8 := i55_8) (o := oAt i55_8 2) (f := 39) (tx := 40) (at' := #[9]) (dd := 41)
    envOK hT11 hS11 hC11 mixed rfl rfl rfl rfl (by kernel_rfl) (by kernel_rfl) (by kernel_rfl) (by kernel_rfl) rfl (by kernel_rfl) (by kernel_rfl) (by kernel_rfl) (by kernel_rfl) (by kernel_rfl) (by kernel_rfl) (by kernel_rfl) (by kernel_rfl) (by kernel_rfl) (by kernel_rfl) (by kernel_rfl) (by kernel_rfl) (by kernel_rfl) (by kernel_rfl)
    x3 x4 e5 e6 (show CB (decide (i < 0)) = _ by rw [decide_eq_false (by omega)]; rfl) e7 e8 (by kernel_rfl) (by kernel_rfl) (vy := CS (oneOf rest i)) (by kernel_rfl) ea (by kernel_rfl) eb (by kernel_rfl) eg (by kernel_rfl) eh k
  have hm5 : (sH rest out (RC v2 r)).mem[5]? = some (.oth (.loop (RC v2 r))) := rfl
  have hm4 : (sH rest out (RC v2 r)).mem[4]? = some (.oth (.deferred (some []))) := rfl
  have i5 := y1.oth x3.mem y3.mem hm5 (show (mA (resOf rest i) out (RC v2 r) e)[5]? = _ from rfl)
  have i4 := y1.oth x3.mem y3.mem hm4 (show (mA (resOf rest i) out (RC v2 r) e)[4]? = _ from rfl)
  obtain ⟨K2, z1, z2, z3, z4⟩ := turn_ok h0 (x1.trans y1) y3 y4 7 [0, 1, 2, 3, 4, 5, 6] [0, 1, 2, 3]
  rw [turn_it] at z2
  have z3' : RepL C_tell_Get.E K2 w' v2 ((t11 text).map (convL (mA (resOf rest i) out (RC v2 r) e) (keepF 7 [0, 1, 2, 3, 4, 5, 6]))) := z3
  rw [turn_t11A] at z3'
  rw [res_of hi0 hlt hb] at z2
  exact ⟨a', w', ⟨K2, z1, x2.trans y2, z2, z3', by rw [z4, i5, x5], by rw [z4, i4, x6]⟩, st⟩
theorem get_stop {rest : List UInt8} {out : List Event} {i : Int} (hi : Lib.indexByte rest 10 = i) (hi0 : i < 0) {outF : List Event}
    (hx : (rest = [] ∧ outF = out) ∨ (rest ≠ [] ∧ ∃ e, tell_read rest = some e ∧ out.length + 1 ≤ maxList ∧ outF = out ++ [e])) {a : Act} {w : World} (h : GI B K0 w0 text rest out v2 l r a w) (cs : List Frame) :
    ∃ tf a' w' K', Ext K0 w0 K' w' ∧ Below B w0 w' ∧ RelS C_tell_Get K' w' B { tmps := tf, mem := mH rest outF (RC v2 r) } a' ∧ RepL C_tell_Get.E K' w' v2 (t11 text) ∧ K'.ι 5 = l ∧ K'.ι 4 = r ∧
      Steps Tryd.prog (lone (f55.atR a (.code b55 :: .inLoop b55 :: [.inBlock 2, .code (.region 10 i55_10 false)])) cs w) (lone { f55.atR a' [] with mode := .returning } cs w') := by
  obtain ⟨K, x1, x2, x3, x4, x5, x6⟩ := h.ev
  have e5 := e55a tell_Put tell_read strings_Index rest out (RC v2 r)
  have hI : strings_Index rest [10] = some i := by rw [← hi]; rfl
  rw [hI] at e5
  have e6 := e55b tell_Put tell_read strings_Index rest out (RC v2 r) i
  have e8 := e55i tell_Put tell_read strings_Index rest out (RC v2 r) i
  have ea := e55e tell_Put tell_read strings_Index text rest rest out (RC v2 r)
  have eb := e55f tell_Put tell_read strings_Index text rest rest out { RC v2 r with state := .busy }
  have hm5 : (sH rest out (RC v2 r)).mem[5]? = some (.oth (.loop (RC v2 r))) := rfl
  have hm4 : (sH rest out (RC v2 r)).mem[4]? = some (.oth (.deferred (some []))) := rfl
  rcases hx with ⟨hr, rfl⟩ | ⟨hr, e, he, ho, rfl⟩
  · have hn1 : (rest == []) = true := by rw [hr]; rfl
    rw [hn1] at eb
    simp only [Bool.not_true, cond_false] at eb
    obtain ⟨K', a', w', y1, y2, y3, y4, st⟩ := it_stop (C := C_tell_Get) (cl := clD C_tell_Get 3) (B := B) (iL := 5) (rec := RC v2 r) (p := 10) (t2 := t11 text) (v2 := v2) (ib := f55) (cs := cs) (r5 := i55_5) (r6 := i55_6) (r7 := i55_7) (r9 := i55_9) (c33 := .tmp 33) (c42 := .tmp 42) (id8 := 8) (ops8 := i55_8) (id10 := 10) (ops10 := i55_10) (o := oAt i55_10 2) (f := 49) (tx := 50) (at' := #[9]) (dd := 51)
      envOK hT11 hS11 hC11 mixed rfl rfl rfl rfl (by kernel_rfl) (by kernel_rfl) (by kernel_rfl) (by kernel_rfl) rfl (by kernel_rfl) (by kernel_rfl) (by kernel_rfl) (by kernel_rfl) (by kernel_rfl) (by kernel_rfl) (by kernel_rfl) (by kernel_rfl) (by kernel_rfl) (by kernel_rfl)
      x3 x4 e5 e6 (show CB (decide (i < 0)) = _ by rw [decide_eq_true hi0]; rfl) e8 (by kernel_rfl) (by kernel_rfl) (vy := CS rest) (by kernel_rfl) ea (by kernel_rfl) eb (by kernel_rfl)
    have i5 := y1.oth x3.mem y3.mem hm5 (show (mH rest outF (RC v2 r))[5]? = _ from rfl)
    have i4 := y1.oth x3.mem y3.mem hm4 (show (mH rest outF (RC v2 r))[4]? = _ from rfl)
    exact ⟨_, a', w', K', x1.trans y1, x2.trans y2, y3, y4, by rw [i5, x5], by rw [i4, x6], st⟩
  · have hn1 : (rest == []) = false := by
      cases rest with
      | nil => exact absurd rfl hr
      | cons b q => rfl
    have hd8 : decide (out.length + [e].length ≤ maxList) = true := decide_eq_true ho
    rw [hn1, he] at eb
    simp only [Bool.not_false, cond_true, Option.bind_some] at eb
    rw [hd8] at eb
    obtain ⟨K', a', w', y1, y2, y3, y4, st⟩ := it_stop (C := C_tell_Get) (cl := clD C_tell_Get 3) (B := B) (iL := 5) (rec := RC v2 r) (p := 10) (t2 := t11 text) (v2 := v2) (ib := f55) (cs := cs) (r5 := i55_5) (r6 := i55_6) (r7 := i55_7) (r9 := i55_9) (c33 := .tmp 33) (c42 := .tmp 42) (id8 := 8) (ops8 := i55_8) (id10 := 10) (ops10 := i55_10) (o := oAt i55_10 2) (f := 49) (tx := 50) (at' := #[9]) (dd := 51)
      envOK hT11 hS11 hC11 mixed rfl rfl rfl rfl (by kernel_rfl) (by kernel_rfl) (by kernel_rfl) (by kernel_rfl) rfl (by kernel_rfl) (by kernel_rfl) (by kernel_rfl) (by kernel_rfl) (by kernel_rfl) (by kernel_rfl) (by kernel_rfl) (by kernel_rfl) (by kernel_rfl) (by kernel_rfl)
      x3 x4 e5 e6 (show CB (decide (i < 0)) = _ by rw [decide_eq_true hi0]; rfl) e8 (by kernel_rfl) (by kernel_rfl) (vy := CS rest) (by kernel_rfl) ea (by kernel_rfl) eb (by kernel_rfl)
    have i5 := y1.oth x3.mem y3.mem hm5 (show (mA rest out (RC v2 r) e)[5]? = _ from rfl)
    have i4 := y1.oth x3.mem y3.mem hm4 (show (mA rest out (RC v2 r) e)[4]? = _ from rfl)
    obtain ⟨K2, z1, z2, z3, z4⟩ := turn_ok h0 (x1.trans y1) y3 y4 7 [0, 1, 2, 3, 4, 5, 6] []
    have z2' := z2
    have em : (mA rest out { RC v2 r with state := .busy } e).set 5 (.oth (.loop (RC v2 r))) = mA rest out (RC v2 r) e := by kernel_rfl
    simp only [em] at z2 z3
    rw [turn_mA] at z2
    rw [turn_t11A] at z3
    exact ⟨_, a', w', K2, z1, x2.trans y2, z2, z3, by rw [z4, i5, x5], by rw [z4, i4, x6], st⟩
end
theorem get_loop : ∀ (n : Nat) (rest : List UInt8) (out outF : List Event), rest.length ≤ 140737488355328 → tell_gl n rest out = some outF → ∃ restF : List UInt8, ∀ (B : Nat) (K0 : Gh) (w0 : World), K0.n = 0 → ∀ (text : List UInt8) (v2 : Array Value) (l r : Nat) (a : Act) (w : World) (cs : List Frame), GI B K0 w0 text rest out v2 l r a w →
    ∃ tf a' w' K', Ext K0 w0 K' w' ∧ Below B w0 w' ∧ RelS C_tell_Get K' w' B { tmps := tf, mem := mH restF outF (RC v2 r) } a' ∧ RepL C_tell_Get.E K' w' v2 (t11 text) ∧ K'.ι 5 = l ∧ K'.ι 4 = r ∧
      Steps Tryd.prog (lone (f55.atR a (.code b55 :: .inLoop b55 :: [.inBlock 2, .code (.region 10 i55_10 false)])) cs w) (lone { f55.atR a' [] with mode := .returning } cs w')
  | 0, _, _, _, _, h => by simp [tell_gl] at h
  | n + 1, rest, out, outF, hb, h => by
    simp only [tell_gl] at h
    cases hd : decide (Lib.indexByte rest 10 < 0) with
    | true =>
      rw [hd] at h
      simp only [cond_true] at h
      have hlt := of_decide_eq_true hd
      refine ⟨rest, fun B K0 w0 h0 text v2 l r a w cs hG => ?_⟩
      refine get_stop h0 rfl hlt ?_ hG cs
      cases hn : (rest == []) with
      | true =>
        rw [hn] at h
        simp only [cond_true, Option.some.injEq] at h
        exact .inl ⟨by simpa using hn, h.symm⟩
      | false =>
        rw [hn] at h
        simp only [cond_false] at h
        refine .inr ⟨by simpa using hn, ?_⟩
        cases he : tell_read rest with
        | none => rw [he] at h; cases h
        | some e =>
          rw [he] at h
          simp only [Option.bind_some] at h
          cases ho : decide (out.length + 1 ≤ maxList) with
          | false => rw [ho] at h; cases h
          | true =>
            rw [ho] at h
            simp only [cond_true, Option.some.injEq] at h
            exact ⟨e, rfl, of_decide_eq_true ho, h.symm⟩
    | false =>
      rw [hd] at h
      simp only [cond_false] at h
      have hge := of_decide_eq_false hd
      cases he : tell_read (rest.take (Int.toNat (Lib.indexByte rest 10 + 1))) with
      | none => rw [he] at h; cases h
      | some e =>
        rw [he] at h
        simp only [Option.bind_some] at h
        cases ho : decide (out.length + 1 ≤ maxList) with
        | false => rw [ho] at h; cases h
        | true =>
          rw [ho] at h
          simp only [cond_true] at h
          obtain ⟨restF, ih⟩ := get_loop n _ _ _ (by rw [List.length_drop]; omega) h
          refine ⟨restF, fun B K0 w0 h0 text v2 l r a w cs hG => ?_⟩
          obtain ⟨a1, w1, hG1, st1⟩ := get_iter h0 rfl (by omega) hb he (of_decide_eq_true ho) hG [.inBlock 2, .code (.region 10 i55_10 false)] cs
          obtain ⟨tf, a2, w2, K2, q1, q2, q3, q4, q5, q6, st2⟩ := ih B K0 w0 h0 text v2 l r a1 w1 cs hG1
          exact ⟨tf, a2, w2, K2, q1, q2, q3, q4, q5, q6, Steps.trans st1 st2⟩
theorem turn_pre (rest : List UInt8) (out : List Event) (L : Loop) : canonS 7 [0, 1, 2, 3, 4, 5, 6] [0, 1, 2, 3] { tmps := ((tH.set 9 (CS [10])).set 10 (CI 1)).set 11 (CB false), mem := mH rest out L } = sH rest out L := by kernel_rfl
theorem i55_eq : i55 = ((i55_0.seq (.cond (.tmp 11) i55_a .skip)).seq ((Code.block 2 (.loop b55)).seq (.region 10 i55_10 false))) := by kernel_rfl
theorem enter_it {B : Nat} {K0 : Gh} {w0 : World} (h0 : K0.n = 0) {text : List UInt8} {v2 : Array Value} {l r : Nat} {a : Act} {w : World} (hA : At3 C_tell_Get B K0 w0 4 l r (st0 Tryd.f55 [.yld 5, .ptr 2 0, .ptr 1 0, .ptr 3 0] (m11 text ++ [.oth (.deferred (some []))] ++ [.oth (.loop (RC v2 r))])) a (t11 text) v2 w) (cs : List Frame) :
    ∃ a' w', GI B K0 w0 text text [] v2 l r a' w' ∧ Steps Tryd.prog (lone (f55.atR a [.code i55]) cs w) (lone (f55.atR a' (.code b55 :: .inLoop b55 :: [.inBlock 2, .code (.region 10 i55_10 false)])) cs w') := by
  obtain ⟨K, x1, x2, x3, x4, x5, x6⟩ := hA
  obtain ⟨K1, p1, p2⟩ := promo_ok x3 (id := 0) (off := 0) (cs := [.nilS]) (fz := false) (by kernel_rfl) (by kernel_rfl) 43 (.st 6)
  have p2' : RelS C_tell_Get K1 w B (sH text [] (RC v2 r)) a := p2
  have hm5 : (m11 text ++ [.oth (.deferred (some []))] ++ [.oth (.loop (RC v2 r))] : Mem S)[5]? = some (.oth (.loop (RC v2 r))) := by kernel_rfl
  have hm4 : (m11 text ++ [.oth (.deferred (some []))] ++ [.oth (.loop (RC v2 r))] : Mem S)[4]? = some (.oth (.deferred (some []))) := by kernel_rfl
  have hn5 : (mH text [] (RC v2 r))[5]? = some (.oth (.loop (RC v2 r))) := by kernel_rfl
  have hn4 : (mH text [] (RC v2 r))[4]? = some (.oth (.deferred (some []))) := by kernel_rfl
  have i5 := p1.oth x3.mem p2'.mem hm5 hn5
  have i4 := p1.oth x3.mem p2'.mem hm4 hn4
  obtain ⟨K2, a2, w2, q1, q2, q3, q4, st1⟩ := exC_i envOK hT11 hS11 hC11 mixed p2' (x4.mono p1) (e55p tell_Put tell_read strings_Index text [] (RC v2 r)) (by kernel_rfl) (by kernel_rfl) f55 [.code (.cond (.tmp 11) i55_a .skip), .code ((Code.block 2 (.loop b55)).seq (.region 10 i55_10 false))] cs
  have j5 := q1.oth p2'.mem q3.mem hn5 hn5
  have j4 := q1.oth p2'.mem q3.mem hn4 hn4
  obtain ⟨K3, z1, z2, z3, z4⟩ := turn_ok h0 ((x1.trans p1).trans q1) q3 q4 7 [0, 1, 2, 3, 4, 5, 6] [0, 1, 2, 3]
  rw [turn_pre] at z2
  have z3' : RepL C_tell_Get.E K3 w2 v2 ((t11 text).map (convL (mH text [] (RC v2 r)) (keepF 7 [0, 1, 2, 3, 4, 5, 6]))) := z3
  rw [turn_t11H] at z3'
  have hc : a2.eval (.tmp 11) = .bool false := q3.bool (by kernel_rfl)
  refine ⟨a2, w2, ⟨K3, z1, x2.trans q2, z2, z3', by rw [z4, j5, i5]; exact x5, by rw [z4, j4, i4]; exact x6⟩, ?_⟩
  rw [i55_eq]
  exact .head stepR_seq (.head stepR_seq (Steps.trans st1 (.head (stepR_cond (t := false) hc) (.head stepR_skip (.head stepR_seq (.head stepR_block (.one stepR_loop)))))))
theorem ok_tell_Get : SpecOK C_tell_Get 11 sp_tell_Get := by
  refine rspec_ok (C := C_tell_Get) (cl := clD C_tell_Get 3) (fn := Tryd.f11) (r0 := g11_0) (r1 := g11_1) (r2 := g11_2) (asn := g11_as) (bd := g11_bd) (r6 := g11_6) (r7 := g11_7) (r8 := g11_8) (r9 := g11_9) (c29 := .tmp 29) (q := 9) (p := 10)
    envOK hT11 hS11 hC11 mixed (by kernel_rfl) (by kernel_rfl) (lvEnters (by kernel_rfl)) (by kernel_rfl) (by kernel_rfl) (by kernel_rfl) (by kernel_rfl) (by kernel_rfl) (by kernel_rfl) (by kernel_rfl) (by kernel_rfl) (by kernel_rfl) (by kernel_rfl) (by kernel_rfl) (by kernel_rfl) (by kernel_rfl) (by kernel_rfl)
    (g := 55) (gn := Tryd.f55) (G := i55) (by kernel_rfl) (by kernel_rfl) (lvEnters (by kernel_rfl)) (by kernel_rfl) [.slice (.st 6), i64] (res2 (.slice (.st 6)) i64) (de2 (S := S) (.slice (.st 6)) i64) fun cs r h => ?_
  obtain ⟨text, rfl, h⟩ := inv1 h
  have h : tell_Get text = some r := h
  unfold tell_Get at h
  cases hd : decide (140737488355328 < text.length) with
  | true => rw [hd] at h; cases h
  | false =>
    rw [hd] at h
    simp only [cond_false] at h
    have hb : text.length ≤ 140737488355328 := Nat.le_of_not_lt (of_decide_eq_false hd)
    cases hgl : tell_gl (text.length + 1) text [] with
    | none => rw [hgl] at h; cases h
    | some outF =>
      rw [hgl] at h
      simp only [Option.bind_some] at h
      obtain ⟨restF, hloop⟩ := get_loop _ _ _ _ hb hgl
      refine ⟨_, _, { tmps := t11 text, mem := m11 text }, [.ptr 2 0, .ptr 1 0, .ptr 3 0], fun v2 r => mH restF outF (RC v2 r), e11a tell_Put tell_read strings_Index text, e11b tell_Put tell_read strings_Index text, e11c tell_Put tell_read strings_Index text, by kernel_rfl, fun _ _ => rfl, fun _ _ => rfl, fun B K0 w0 h0 l rr v2 a' w' cs hA => ?_, fun v2 rr => ?_⟩
      · obtain ⟨a1, w1, hG, st1⟩ := enter_it h0 hA cs
        obtain ⟨tf, a2, w2, K2, q1, q2, q3, q4, q5, q6, st2⟩ := hloop B K0 w0 h0 text v2 l rr a1 w1 cs hG
        exact ⟨tf, a2, w2, ⟨K2, q1, q2, q3, q4, q5, q6⟩, Steps.trans st1 st2⟩
      · have et := e11t tell_Put tell_read strings_Index text restF outF { RC v2 rr with state := .exhausted }
        refine Eq.trans et ?_
        cases hp : tell_Put outF with
        | none => rw [hp] at h; cases h
        | some p =>
          rw [hp] at h
          simp only [Option.bind_some] at h ⊢
          cases e1 : (p.2 == 0) with
          | false => rw [e1] at h; exact h
          | true =>
            rw [e1] at h
            cases e2 : (p.1 == text) with
            | false => rw [e2] at h; exact h
            | true => rw [e2] at h; exact h
end Go.Lv.Ld
namespace Go.Lv.Ld
open Go Go.Lv Go.Proofs
set_option linter.all false
set_option maxRecDepth 100000
-- lodger/lodgerlaw28.awake
def lodgerlaw28_awake_b (g_tell_Put : (List Event) → Option ((List UInt8) × Int)) (g_tell_Get : (List UInt8) → Option ((List Event) × Int)) (g_tell_May : (List Event) → Option (Bool)) (g_lodgerref22_Events : (List Event) → (List Event) → Option (Bool)) (g_tell_Of : (List Event) → Int → Option ((List Answer)))  : Option (Bool) := ((g_tell_Put ([(⟨1, 0, 0, 0, 0, ⟨0, 0, false, [], []⟩⟩ : Event), (⟨3, 1, 2, 0, 0, ⟨0, 167772161, true, ([1] : List Int), ([0, 6] : List Int)⟩⟩ : Event)] : List Event)).bind fun r1 => ((g_tell_Get r1.1).bind fun r2 => (bif (decide (r1.1.length + ([120] : List UInt8).length ≤ 1152921504606846976)) then ((g_tell_Get (r1.1 ++ ([120] : List UInt8))).bind fun r3 => ((g_tell_Put ([(⟨0, 0, 0, 0, 0, ⟨0, 0, false, [], []⟩⟩ : Event)] : List Event)).bind fun r4 => ((g_tell_Of ([(⟨1, 0, 0, 0, 0, ⟨0, 0, false, [], []⟩⟩ : Event), (⟨3, 1, 2, 0, 0, ⟨0, 167772161, true, ([1] : List Int), ([0, 6] : List Int)⟩⟩ : Event)] : List Event) 1).bind fun r5 => (bif (r1.1 == ([49, 32, 48, 32, 48, 32, 48, 32, 48, 32, 48, 32, 48, 46, 48, 46, 48, 46, 48, 32, 110, 111, 32, 97, 100, 100, 114, 115, 32, 101, 114, 114, 115, 10, 51, 32, 49, 32, 50, 32, 48, 32, 48, 32, 48, 32, 49, 48, 46, 48, 46, 48, 46, 49, 32, 121, 101, 115, 32, 97, 100, 100, 114, 115, 32, 48, 46, 48, 46, 48, 46, 49, 32, 101, 114, 114, 115, 32, 48, 32, 54, 10] : List UInt8)) then (bif (r1.2 == 0) then (bif (r2.2 == 0) then ((g_lodgerref22_Events ([(⟨1, 0, 0, 0, 0, ⟨0, 0, false, [], []⟩⟩ : Event), (⟨3, 1, 2, 0, 0, ⟨0, 167772161, true, ([1] : List Int), ([0, 6] : List Int)⟩⟩ : Event)] : List Event) r2.1).bind fun r6 => (bif r6 then (bif (r3.2 == 2) then (bif (r4.2 == 2) then ((g_tell_May ([(⟨1, 0, 0, 0, 0, ⟨0, 0, false, [], []⟩⟩ : Event), (⟨3, 1, 2, 0, 0, ⟨0, 167772161, true, ([1] : List Int), ([0, 6] : List Int)⟩⟩ : Event)] : List Event)).bind fun r7 => (bif r7 then ((g_tell_May ([(⟨0, 0, 0, 0, 0, ⟨0, 0, false, [], []⟩⟩ : Event)] : List Event)).bind fun r8 => (bif (not r8) then (bif ((List.length r5 : Int) == 1) then ((geti r5 0).bind fun x9 => (bif (x9.addr == 167772161) then ((g_tell_Of ([(⟨1, 0, 0, 0, 0, ⟨0, 0, false, [], []⟩⟩ : Event), (⟨3, 1, 2, 0, 0, ⟨0, 167772161, true, ([1] : List Int), ([0, 6] : List Int)⟩⟩ : Event)] : List Event) 0).bind fun r10 => some ((List.length r10 : Int) == 0)) else some false)) else some false) else some false)) else some false)) else some false) else some false) else some false)) else some false) else some false) else some false)))) else none)))
def sp_lodgerlaw28_awake : Spec S := { args := [], R := Bool, run := run0  lodgerlaw28_awake, enc := enc1 (S := S) Ty.bool }
def spb_lodgerlaw28_awake (F : Option (Bool)) : Spec S := { args := [], R := Bool, run := run0  F, enc := enc1 (S := S) Ty.bool }
def usb_lodgerlaw28_awake (g_tell_Put : (List Event) → Option ((List UInt8) × Int)) (g_tell_Get : (List UInt8) → Option ((List Event) × Int)) (g_tell_May : (List Event) → Option (Bool)) (g_lodgerref22_Events : (List Event) → (List Event) → Option (Bool)) (g_tell_Of : (List Event) → Int → Option ((List Answer))) : List (Nat × Spec S) := [(9, spb_tell_Put g_tell_Put), (11, spb_tell_Get g_tell_Get), (13, spb_tell_May g_tell_May), (15, spb_lodgerref22_Events g_lodgerref22_Events), (16, spb_tell_Of g_tell_Of)]
def us_lodgerlaw28_awake : List (Nat × Spec S) := [(9, sp_tell_Put), (11, sp_tell_Get), (13, sp_tell_May), (15, sp_lodgerref22_Events), (16, sp_tell_Of)]
noncomputable def Cb_lodgerlaw28_awake (g_tell_Put : (List Event) → Option ((List UInt8) × Int)) (g_tell_Get : (List UInt8) → Option ((List Event) × Int)) (g_tell_May : (List Event) → Option (Bool)) (g_lodgerref22_Events : (List Event) → (List Event) → Option (Bool)) (g_tell_Of : (List Event) → Int → Option ((List Answer))) : Ctx S := { P := Tryd.prog, E := E, ty := tyL tab, G := glL gtab, spec := spL (usb_lodgerlaw28_awake g_tell_Put g_tell_Get g_tell_May g_lodgerref22_Events g_tell_Of), inl := inL [] }
noncomputable def C_lodgerlaw28_awake : Ctx S := Cb_lodgerlaw28_awake tell_Put tell_Get tell_May lodgerref22_Events tell_Of
theorem evb_lodgerlaw28_awake (g_tell_Put : (List Event) → Option ((List UInt8) × Int)) (g_tell_Get : (List UInt8) → Option ((List Event) × Int)) (g_tell_May : (List Event) → Option (Bool)) (g_lodgerref22_Events : (List Event) → (List Event) → Option (Bool)) (g_tell_Of : (List Event) → Int → Option ((List Answer))) (L : (St S → D (Bool)) → Lp S (Bool))  : (runWF (Cb_lodgerlaw28_awake g_tell_Put g_tell_Get g_tell_May g_lodgerref22_Events g_tell_Of) (clDF (Cb_lodgerlaw28_awake g_tell_Put g_tell_Get g_tell_May g_lodgerref22_Events g_tell_Of) 0) L 7 [Ty.bool] (res1 Ty.bool) []).opt = lodgerlaw28_awake_b g_tell_Put g_tell_Get g_tell_May g_lodgerref22_Events g_tell_Of  := by kernel_rfl
theorem ev_lodgerlaw28_awake (L : (St S → D (Bool)) → Lp S (Bool))  : (runW C_lodgerlaw28_awake (clD C_lodgerlaw28_awake 0) L 7 [Ty.bool] (res1 Ty.bool) []).opt = lodgerlaw28_awake  := (congrArg D.opt (runWF_eq _ _ L _ _ _ _)).trans (evb_lodgerlaw28_awake tell_Put tell_Get tell_May lodgerref22_Events tell_Of L )
theorem ok_lodgerlaw28_awake : SpecOK C_lodgerlaw28_awake 7 sp_lodgerlaw28_awake := by
  have hS := specs_ok (C := C_lodgerlaw28_awake) (l := us_lodgerlaw28_awake) rfl ⟨ok_tell_Put.re rfl rfl rfl, ok_tell_Get.re rfl rfl rfl, ok_tell_May.re rfl rfl rfl, ok_lodgerref22_Events.re rfl rfl rfl, ok_tell_Of.re rfl rfl rfl, trivial⟩
  refine spec_ok (C := C_lodgerlaw28_awake) (cl := (clD C_lodgerlaw28_awake 0)) (hd := (fun _ s => some s)) envOK (tyOK_of (l := tab) rfl tabT) hS (clD_ok envOK (tyOK_of (l := tab) rfl tabT) hS mixed (inl_ok (l := []) rfl (by kernel_rfl)) _) mixed HdOK.id (by kernel_rfl) [Ty.bool] (res1 Ty.bool) (de1 (S := S) Ty.bool) fun cs r h => ?_
  exact run0_ev0 (F := lodgerlaw28_awake) ev_lodgerlaw28_awake h
end Go.Lv.Ld
