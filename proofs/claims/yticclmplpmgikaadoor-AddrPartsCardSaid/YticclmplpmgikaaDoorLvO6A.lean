import Derived.Shelf.Lay
import Derived.Ground.NamesProg
import Derived.Shelf.Strings.BuilderX
import Derived.Test.YticclmplpmgikaaDoorLvD6
import Derived.Test.YticclmplpmgikaaDoorChecked
import Derived.Test.YticclmplpmgikaaDoorLvStr
namespace Go.Lv.Ld
open Go Go.Lv Go.Proofs
set_option linter.all false
set_option maxRecDepth 100000
def gtab : List (Nat × List (V S)) := [(0, [.cell Ty.err true]), (1, [.cell Ty.err true]), (3, [.cell u64 (1 : Int), .cell u64 (10 : Int), .cell u64 (100 : Int), .cell u64 (1000 : Int), .cell u64 (10000 : Int), .cell u64 (100000 : Int), .cell u64 (1000000 : Int), .cell u64 (10000000 : Int), .cell u64 (100000000 : Int), .cell u64 (1000000000 : Int), .cell u64 (10000000000 : Int), .cell u64 (100000000000 : Int), .cell u64 (1000000000000 : Int), .cell u64 (10000000000000 : Int), .cell u64 (100000000000000 : Int), .cell u64 (1000000000000000 : Int), .cell u64 (10000000000000000 : Int), .cell u64 (100000000000000000 : Int), .cell u64 (1000000000000000000 : Int), .cell u64 (10000000000000000000 : Int)])]
def tab : List (Nat × Ty) := [(2, i64), (3, i64), (4, Ty.bool), (5, (Ty.int .u8)), (6, (Ty.int .u8)), (9, Ty.str), (10, Ty.str), (11, Ty.str), (12, u64), (20, Ty.err), (21, (Ty.int .i32)), (22, u32), (24, (Ty.st 0)), (26, i64), (43, u64), (44, u64), (46, (Ty.slice (Ty.int .u8))), (50, (Ty.slice Ty.str)), (52, Ty.err), (53, Ty.err), (56, (Ty.slice i64)), (73, i64), (123, (Ty.int .u8)), (124, (Ty.int .u8)), (126, (Ty.int .i32)), (127, (Ty.int .i32))]
theorem tabT : tab.all (tyB Tryd.prog E) = true := by kernel_rfl
theorem tabF : tab.all (tabB Tryd.prog E (tyL tab)) = true := by kernel_rfl
theorem mixed : Tryd.prog.follows .mixedOrders = true := Checked.mixed Tryd.checked
-- strconv.Itoa
end Go.Lv.Ld
namespace Go.Proofs
open Go.Shelf
def Tryd.lvstrconv_Itoa_ren : Go.Shelf.Ren := ⟨fun | 171 => 20 | 243 => 28 | 246 => 36 | 283 => 48 | 284 => 49 | 285 => 50 | 286 => 51 | 129 => 65 | 317 => 64 | 318 => 66 | 319 => 67 | 320 => 68 | 337 => 74 | 338 => 75 | n => n, fun | 3 => 3 | 9 => 9 | 2 => 2 | 4 => 4 | 171 => 80 | 0 => 0 | 53 => 43 | 37 => 46 | 5 => 5 | 173 => 83 | 212 => 99 | 51 => 22 | 20 => 20 | 213 => 100 | 46 => 44 | 232 => 115 | 233 => 116 | n => n, fun | 17 => 3 | 18 => 6 | 19 => 7 | n => n⟩
theorem Tryd.lvstrconv_Itoa : Go.Proofs.LaysM.n171 Tryd.prog Tryd.lvstrconv_Itoa_ren := {
  mixed := by kernel_rfl
  f129 := Tryd.func65.trans (congrArg some (by kernel_rfl))
  f171 := Tryd.func20.trans (congrArg some (by kernel_rfl))
  f243 := Tryd.func28.trans (congrArg some (by kernel_rfl))
  f246 := Tryd.func36.trans (congrArg some (by kernel_rfl))
  f283 := Tryd.func48.trans (congrArg some (by kernel_rfl))
  f284 := Tryd.func49.trans (congrArg some (by kernel_rfl))
  f285 := Tryd.func50.trans (congrArg some (by kernel_rfl))
  f286 := Tryd.func51.trans (congrArg some (by kernel_rfl))
  f317 := Tryd.func64.trans (congrArg some (by kernel_rfl))
  f318 := Tryd.func66.trans (congrArg some (by kernel_rfl))
  f319 := Tryd.func67.trans (congrArg some (by kernel_rfl))
  f320 := Tryd.func68.trans (congrArg some (by kernel_rfl))
  f337 := Tryd.func74.trans (congrArg some (by kernel_rfl))
  f338 := Tryd.func75.trans (congrArg some (by kernel_rfl))
  t0 := Tryd.underlying0
  a0 := Tryd.isAgg0
  z0 := Tryd.sizeOf0
  v0 := Tryd.zeroValue0
  t2 := Tryd.underlying2
  a2 := Tryd.isAgg2
  z2 := Tryd.sizeOf2
  v2 := Tryd.zeroValue2
  t3 := Tryd.underlying3
  a3 := Tryd.isAgg3
  z3 := Tryd.sizeOf3
  v3 := Tryd.zeroValue3
  t4 := Tryd.underlying4
  a4 := Tryd.isAgg4
  z4 := Tryd.sizeOf4
  v4 := Tryd.zeroValue4
  t5 := Tryd.underlying5
  a5 := Tryd.isAgg5
  z5 := Tryd.sizeOf5
  v5 := Tryd.zeroValue5
  t9 := Tryd.underlying9
  a9 := Tryd.isAgg9
  z9 := Tryd.sizeOf9
  v9 := Tryd.zeroValue9
  t20 := Tryd.underlying20
  a20 := Tryd.isAgg20
  z20 := Tryd.sizeOf20
  v20 := Tryd.zeroValue20
  t37 := Tryd.underlying46
  a37 := Tryd.isAgg46
  z37 := Tryd.sizeOf46
  v37 := Tryd.zeroValue46
  t46 := Tryd.underlying44
  a46 := Tryd.isAgg44
  z46 := Tryd.sizeOf44
  v46 := Tryd.zeroValue44
  t51 := Tryd.underlying22
  a51 := Tryd.isAgg22
  z51 := Tryd.sizeOf22
  v51 := Tryd.zeroValue22
  t53 := Tryd.underlying43
  a53 := Tryd.isAgg43
  z53 := Tryd.sizeOf43
  v53 := Tryd.zeroValue43
  t171 := Tryd.underlying80
  a171 := Tryd.isAgg80
  z171 := Tryd.sizeOf80
  v171 := Tryd.zeroValue80
  t173 := Tryd.underlying83
  a173 := Tryd.isAgg83
  z173 := Tryd.sizeOf83
  v173 := Tryd.zeroValue83
  t212 := Tryd.underlying99
  a212 := Tryd.isAgg99
  z212 := Tryd.sizeOf99
  v212 := Tryd.zeroValue99
  t213 := Tryd.underlying100
  a213 := Tryd.isAgg100
  z213 := Tryd.sizeOf100
  t232 := Tryd.underlying115
  a232 := Tryd.isAgg115
  z232 := Tryd.sizeOf115
  v232 := Tryd.zeroValue115
  t233 := Tryd.underlying116
  a233 := Tryd.isAgg116
  z233 := Tryd.sizeOf116
  v233 := Tryd.zeroValue116
  g17 := by kernel_rfl
  g18 := by kernel_rfl
  g19 := by kernel_rfl
  i0 := by kernel_rfl
  i2 := by kernel_rfl
  i3 := by kernel_rfl
  i4 := by kernel_rfl
  i5 := by kernel_rfl
  i9 := by kernel_rfl
  i20 := by kernel_rfl
  i37 := by kernel_rfl
  i46 := by kernel_rfl
  i51 := by kernel_rfl
  i53 := by kernel_rfl
  i171 := by kernel_rfl
  i173 := by kernel_rfl
  i212 := by kernel_rfl
  i232 := by kernel_rfl
  i233 := by kernel_rfl
  m17 := by kernel_rfl
  m18 := by kernel_rfl
  m19 := by kernel_rfl }
end Go.Proofs
namespace Go.Lv.Ld
open Go Go.Lv Go.Proofs
set_option linter.all false
set_option maxRecDepth 100000
def sp_strconv_Itoa : Spec S := { args := [i64], R := (List UInt8), run := run1 i64 strconv_Itoa, enc := enc1 (S := S) Ty.str }
def spb_strconv_Itoa (F : Int → Option ((List UInt8))) : Spec S := { args := [i64], R := (List UInt8), run := run1 i64 F, enc := enc1 (S := S) Ty.str }
noncomputable def C_strconv_Itoa : Ctx S := { P := Tryd.prog, E := E, ty := tyL tab, G := glL gtab, spec := fun _ => none, inl := fun _ => false }
theorem ok_strconv_Itoa : SpecOK C_strconv_Itoa 20 sp_strconv_Itoa := ok_Itoa (C := C_strconv_Itoa) (ρ := Tryd.lvstrconv_Itoa_ren) Tryd.lvstrconv_Itoa (lvEnters (by kernel_rfl)) (g := 3) (by kernel_rfl) (by kernel_rfl)
-- strings.Join
end Go.Lv.Ld
namespace Go.Proofs
open Go.Shelf
def Tryd.lvstrings_Join_ren : Go.Shelf.Ren := ⟨fun | 156 => 26 | 165 => 33 | 166 => 34 | 169 => 35 | 240 => 46 | 241 => 47 | 276 => 62 | 277 => 63 | n => n, fun | 31 => 50 | 9 => 9 | 3 => 3 | 4 => 4 | 0 => 0 | 20 => 20 | 72 => 67 | 76 => 54 | 70 => 65 | 37 => 46 | 75 => 53 | 127 => 79 | 164 => 95 | 5 => 5 | 80 => 69 | n => n, fun | n => n⟩
theorem Tryd.lvstrings_Join : Go.Proofs.LaysM.n156 Tryd.prog Tryd.lvstrings_Join_ren := {
  mixed := by kernel_rfl
  f156 := Tryd.func26.trans (congrArg some (by kernel_rfl))
  f165 := Tryd.func33.trans (congrArg some (by kernel_rfl))
  f166 := Tryd.func34.trans (congrArg some (by kernel_rfl))
  f169 := Tryd.func35.trans (congrArg some (by kernel_rfl))
  f240 := Tryd.func46.trans (congrArg some (by kernel_rfl))
  f241 := Tryd.func47.trans (congrArg some (by kernel_rfl))
  f276 := Tryd.func62.trans (congrArg some (by kernel_rfl))
  f277 := Tryd.func63.trans (congrArg some (by kernel_rfl))
  t0 := Tryd.underlying0
  a0 := Tryd.isAgg0
  z0 := Tryd.sizeOf0
  v0 := Tryd.zeroValue0
  t3 := Tryd.underlying3
  a3 := Tryd.isAgg3
  z3 := Tryd.sizeOf3
  v3 := Tryd.zeroValue3
  t4 := Tryd.underlying4
  a4 := Tryd.isAgg4
  z4 := Tryd.sizeOf4
  v4 := Tryd.zeroValue4
  t9 := Tryd.underlying9
  a9 := Tryd.isAgg9
  z9 := Tryd.sizeOf9
  v9 := Tryd.zeroValue9
  t20 := Tryd.underlying20
  a20 := Tryd.isAgg20
  z20 := Tryd.sizeOf20
  v20 := Tryd.zeroValue20
  t31 := Tryd.underlying50
  a31 := Tryd.isAgg50
  z31 := Tryd.sizeOf50
  v31 := Tryd.zeroValue50
  t37 := Tryd.underlying46
  a37 := Tryd.isAgg46
  z37 := Tryd.sizeOf46
  v37 := Tryd.zeroValue46
  t70 := Tryd.underlying65
  a70 := Tryd.isAgg65
  z70 := Tryd.sizeOf65
  v70 := Tryd.zeroValue65
  t72 := Tryd.underlying67
  a72 := Tryd.isAgg67
  z72 := Tryd.sizeOf67
  v72 := Tryd.zeroValue67
  t75 := Tryd.underlying53
  a75 := Tryd.isAgg53
  z75 := Tryd.sizeOf53
  v75 := Tryd.zeroValue53
  t76 := Tryd.underlying54
  a76 := Tryd.isAgg54
  z76 := Tryd.sizeOf54
  v76 := Tryd.zeroValue54
  t127 := Tryd.underlying79
  a127 := Tryd.isAgg79
  z127 := Tryd.sizeOf79
  v127 := Tryd.zeroValue79
  t164 := Tryd.underlying95
  a164 := Tryd.isAgg95
  z164 := Tryd.sizeOf95
  v164 := Tryd.zeroValue95
  t5 := Tryd.underlying5
  a5 := Tryd.isAgg5
  z5 := Tryd.sizeOf5
  v5 := Tryd.zeroValue5
  t80 := Tryd.underlying69
  a80 := Tryd.isAgg69
  z80 := Tryd.sizeOf69
  v80 := Tryd.zeroValue69
  i0 := by kernel_rfl
  i3 := by kernel_rfl
  i4 := by kernel_rfl
  i5 := by kernel_rfl
  i9 := by kernel_rfl
  i20 := by kernel_rfl
  i31 := by kernel_rfl
  i37 := by kernel_rfl
  i70 := by kernel_rfl
  i72 := by kernel_rfl
  i75 := by kernel_rfl
  i76 := by kernel_rfl
  i80 := by kernel_rfl
  i127 := by kernel_rfl
  i164 := by kernel_rfl }
end Go.Proofs
namespace Go.Lv.Ld
open Go Go.Lv Go.Proofs
set_option linter.all false
set_option maxRecDepth 100000
def sp_strings_Join : Spec S := { args := [(Ty.slice Ty.str), Ty.str], R := (List UInt8), run := run2 (Ty.slice Ty.str) Ty.str strings_Join, enc := enc1 (S := S) Ty.str }
def spb_strings_Join (F : (List (List UInt8)) → (List UInt8) → Option ((List UInt8))) : Spec S := { args := [(Ty.slice Ty.str), Ty.str], R := (List UInt8), run := run2 (Ty.slice Ty.str) Ty.str F, enc := enc1 (S := S) Ty.str }
theorem ex_Builder : Builder.Extra Tryd.prog Tryd.lvstrings_Join_ren where
  sizeBuilder := by kernel_rfl
  liesBuilder := by kernel_rfl
  t5 := Tryd.lvstrings_Join.t5
  a5 := Tryd.lvstrings_Join.a5
  z5 := Tryd.lvstrings_Join.z5
  v5 := Tryd.lvstrings_Join.v5
  infoByte := Tryd.lvstrings_Join.i5
  cellsByte := by kernel_rfl
  sizeByte := by kernel_rfl
  neB5 := by decide
noncomputable def C_strings_Join : Ctx S := { P := Tryd.prog, E := E, ty := tyL tab, G := glL gtab, spec := fun _ => none, inl := fun _ => false }
theorem ok_strings_Join : SpecOK C_strings_Join 26 sp_strings_Join := ok_Join (C := C_strings_Join) (ρ := Tryd.lvstrings_Join_ren) { Tryd.lvstrings_Join with } ex_Builder (lvEnters (by kernel_rfl))
-- lodger/addr.Text
def addr_Text_s0b (g_strconv_Itoa : Int → Option ((List UInt8))) (g_strings_Join : (List (List UInt8)) → (List UInt8) → Option ((List UInt8))) (k0 : Int → Int → (List UInt8) → (List UInt8) → (List UInt8) → (List UInt8) → Option ((List UInt8))) (s0 : Int) (s5 : Int) (m0_0 : (List UInt8)) (m0_1 : (List UInt8)) (m0_2 : (List UInt8)) (m0_3 : (List UInt8)) : Option ((List UInt8)) := (bif (decide (s5 < 4)) then (bif (decide ((IntKind.wrap .u64 (IntKind.wrap .i64 (8 * s5))) < 0)) then none else ((g_strconv_Itoa (IntKind.wrap .i64 (bit_and .u32 (shr .u32 s0 (IntKind.wrap .u64 (IntKind.wrap .i64 (8 * s5)))) 255))).bind fun r1 => (bif ((IntKind.wrap .i64 (3 - s5)) == (0 : Int)) then k0 s0 (IntKind.wrap .i64 (s5 + 1)) r1 m0_1 m0_2 m0_3 else (bif ((IntKind.wrap .i64 (3 - s5)) == (1 : Int)) then k0 s0 (IntKind.wrap .i64 (s5 + 1)) m0_0 r1 m0_2 m0_3 else (bif ((IntKind.wrap .i64 (3 - s5)) == (2 : Int)) then k0 s0 (IntKind.wrap .i64 (s5 + 1)) m0_0 m0_1 r1 m0_3 else (bif ((IntKind.wrap .i64 (3 - s5)) == (3 : Int)) then k0 s0 (IntKind.wrap .i64 (s5 + 1)) m0_0 m0_1 m0_2 r1 else none)))))) else ((g_strings_Join ([m0_0, m0_1, m0_2, m0_3] : List (List UInt8)) ([46] : List UInt8)).bind fun r2 => some r2))
def addr_Text_eb (g_strconv_Itoa : Int → Option ((List UInt8))) (g_strings_Join : (List (List UInt8)) → (List UInt8) → Option ((List UInt8))) (k0 : Int → Int → (List UInt8) → (List UInt8) → (List UInt8) → (List UInt8) → Option ((List UInt8))) (a0 : Int) : Option ((List UInt8)) := k0 a0 0 ([] : List UInt8) ([] : List UInt8) ([] : List UInt8) ([] : List UInt8)
def sp_addr_Text : Spec S := { args := [u32], R := (List UInt8), run := run1 u32 addr_Text, enc := enc1 (S := S) Ty.str }
def spb_addr_Text (F : Int → Option ((List UInt8))) : Spec S := { args := [u32], R := (List UInt8), run := run1 u32 F, enc := enc1 (S := S) Ty.str }
def usb_addr_Text (g_strconv_Itoa : Int → Option ((List UInt8))) (g_strings_Join : (List (List UInt8)) → (List UInt8) → Option ((List UInt8))) : List (Nat × Spec S) := [(20, spb_strconv_Itoa g_strconv_Itoa), (26, spb_strings_Join g_strings_Join)]
def us_addr_Text : List (Nat × Spec S) := [(20, sp_strconv_Itoa), (26, sp_strings_Join)]
noncomputable def Cb_addr_Text (g_strconv_Itoa : Int → Option ((List UInt8))) (g_strings_Join : (List (List UInt8)) → (List UInt8) → Option ((List UInt8))) : Ctx S := { P := Tryd.prog, E := E, ty := tyL tab, G := glL gtab, spec := spL (usb_addr_Text g_strconv_Itoa g_strings_Join), inl := inL [] }
noncomputable def C_addr_Text : Ctx S := Cb_addr_Text strconv_Itoa strings_Join
def hd_addr_Text : List ((Nat × Nat) × List Hs) := [((2, 3), [.canon 1 [0] [0, 3, 5], .plain 0 u32, .plain 5 i64, .plainB 0 0 Ty.str, .plainB 0 1 Ty.str, .plainB 0 2 Ty.str, .plainB 0 3 Ty.str])]
def h0_addr_Text (s0 : Int) (s5 : Int) (m0_0 : (List UInt8)) (m0_1 : (List UInt8)) (m0_2 : (List UInt8)) (m0_3 : (List UInt8)) : St S := { tmps := [.cell u32 s0, .undef, .undef, .ptr 0 0, .undef, .cell i64 s5, .undef, .undef, .undef, .undef, .undef, .undef, .undef, .undef, .undef, .undef, .undef, .undef, .undef, .undef, .undef, .undef], mem := [.box [.cell Ty.str m0_0, .cell Ty.str m0_1, .cell Ty.str m0_2, .cell Ty.str m0_3] false] }
theorem rdb0_addr_Text (g_strconv_Itoa : Int → Option ((List UInt8))) (g_strings_Join : (List (List UInt8)) → (List UInt8) → Option ((List UInt8))) (L : Lp S ((List UInt8))) (s0 : Int) (s5 : Int) (m0_0 : (List UInt8)) (m0_1 : (List UInt8)) (m0_2 : (List UInt8)) (m0_3 : (List UInt8)) : (roundWF (Cb_addr_Text g_strconv_Itoa g_strings_Join) (clDF (Cb_addr_Text g_strconv_Itoa g_strings_Join) 0) (hdOf (Cb_addr_Text g_strconv_Itoa g_strings_Join) hd_addr_Text) 15 0 [Ty.str] (res1 Ty.str) L (h0_addr_Text s0 s5 m0_0 m0_1 m0_2 m0_3)).opt = addr_Text_s0b g_strconv_Itoa g_strings_Join (fun s0 s5 m0_0 m0_1 m0_2 m0_3 => (L (todoOf (Cb_addr_Text g_strconv_Itoa g_strings_Join) 15 0) (h0_addr_Text s0 s5 m0_0 m0_1 m0_2 m0_3)).opt) s0 s5 m0_0 m0_1 m0_2 m0_3 := by kernel_rfl
theorem rd0_addr_Text (L : Lp S ((List UInt8))) (s0 : Int) (s5 : Int) (m0_0 : (List UInt8)) (m0_1 : (List UInt8)) (m0_2 : (List UInt8)) (m0_3 : (List UInt8)) : (roundW C_addr_Text (clD C_addr_Text 0) (hdOf C_addr_Text hd_addr_Text) 15 0 [Ty.str] (res1 Ty.str) L (h0_addr_Text s0 s5 m0_0 m0_1 m0_2 m0_3)).opt = addr_Text_s0 (fun s0 s5 m0_0 m0_1 m0_2 m0_3 => (L (todoOf C_addr_Text 15 0) (h0_addr_Text s0 s5 m0_0 m0_1 m0_2 m0_3)).opt) s0 s5 m0_0 m0_1 m0_2 m0_3 := (congrArg D.opt (roundWF_eq _ _ _ _ _ _ _ L _)).trans (rdb0_addr_Text strconv_Itoa strings_Join L s0 s5 m0_0 m0_1 m0_2 m0_3)
theorem enb_addr_Text (g_strconv_Itoa : Int → Option ((List UInt8))) (g_strings_Join : (List (List UInt8)) → (List UInt8) → Option ((List UInt8))) (L : Lp S ((List UInt8))) (a0 : Int) : (runWF (Cb_addr_Text g_strconv_Itoa g_strings_Join) (clDF (Cb_addr_Text g_strconv_Itoa g_strings_Join) 0) (fun _ => canonL (hdOf (Cb_addr_Text g_strconv_Itoa g_strings_Join) hd_addr_Text) L) 15 [Ty.str] (res1 Ty.str) [encV E u32 a0]).opt = addr_Text_eb g_strconv_Itoa g_strings_Join (fun s0 s5 m0_0 m0_1 m0_2 m0_3 => (L (todoOf (Cb_addr_Text g_strconv_Itoa g_strings_Join) 15 0) (h0_addr_Text s0 s5 m0_0 m0_1 m0_2 m0_3)).opt) a0 := by kernel_rfl
theorem en_addr_Text (L : Lp S ((List UInt8))) (a0 : Int) : (runW C_addr_Text (clD C_addr_Text 0) (fun _ => canonL (hdOf C_addr_Text hd_addr_Text) L) 15 [Ty.str] (res1 Ty.str) [encV E u32 a0]).opt = addr_Text_e (fun s0 s5 m0_0 m0_1 m0_2 m0_3 => (L (todoOf C_addr_Text 15 0) (h0_addr_Text s0 s5 m0_0 m0_1 m0_2 m0_3)).opt) a0 := (congrArg D.opt (runWF_eq _ _ _ _ _ _ _)).trans (enb_addr_Text strconv_Itoa strings_Join L a0)
theorem fx_addr_Text : ∀ n, (∀ (s0 : Int) (s5 : Int) (m0_0 : (List UInt8)) (m0_1 : (List UInt8)) (m0_2 : (List UInt8)) (m0_3 : (List UInt8)), (Lfix C_addr_Text (clD C_addr_Text 0) (hdOf C_addr_Text hd_addr_Text) (finW C_addr_Text 15 [Ty.str] (res1 Ty.str)) n (todoOf C_addr_Text 15 0) (h0_addr_Text s0 s5 m0_0 m0_1 m0_2 m0_3)).opt = addr_Text_l0 n s0 s5 m0_0 m0_1 m0_2 m0_3)
  | 0 => fun _ _ _ _ _ _ => rfl
  | n + 1 => by
    have ih := fx_addr_Text n
    have e0 : (fun s0 s5 m0_0 m0_1 m0_2 m0_3 => (Lfix C_addr_Text (clD C_addr_Text 0) (hdOf C_addr_Text hd_addr_Text) (finW C_addr_Text 15 [Ty.str] (res1 Ty.str)) n (todoOf C_addr_Text 15 0) (h0_addr_Text s0 s5 m0_0 m0_1 m0_2 m0_3)).opt) = addr_Text_l0 n := funext fun s0 => funext fun s5 => funext fun m0_0 => funext fun m0_1 => funext fun m0_2 => funext fun m0_3 => ih s0 s5 m0_0 m0_1 m0_2 m0_3
    exact fun s0 s5 m0_0 m0_1 m0_2 m0_3 => (congrArg D.opt (Lfix_round C_addr_Text (clD C_addr_Text 0) (hdOf C_addr_Text hd_addr_Text) 15 0 [Ty.str] (res1 Ty.str) n _)).trans ((rd0_addr_Text (Lfix C_addr_Text (clD C_addr_Text 0) (hdOf C_addr_Text hd_addr_Text) (finW C_addr_Text 15 [Ty.str] (res1 Ty.str)) n) s0 s5 m0_0 m0_1 m0_2 m0_3).trans (congrArg (fun x => addr_Text_s0  x  s0 s5 m0_0 m0_1 m0_2 m0_3) e0))
theorem ev_addr_Text (n : Nat) (a0 : Int) : (runF C_addr_Text (clD C_addr_Text 0) (hdOf C_addr_Text hd_addr_Text) 15 [Ty.str] (res1 Ty.str) n [encV E u32 a0]).opt = addr_Text_n n a0 := by
  have ih := fx_addr_Text n
  have e0 : (fun s0 s5 m0_0 m0_1 m0_2 m0_3 => (Lfix C_addr_Text (clD C_addr_Text 0) (hdOf C_addr_Text hd_addr_Text) (finW C_addr_Text 15 [Ty.str] (res1 Ty.str)) n (todoOf C_addr_Text 15 0) (h0_addr_Text s0 s5 m0_0 m0_1 m0_2 m0_3)).opt) = addr_Text_l0 n := funext fun s0 => funext fun s5 => funext fun m0_0 => funext fun m0_1 => funext fun m0_2 => funext fun m0_3 => ih s0 s5 m0_0 m0_1 m0_2 m0_3
  exact (congrArg D.opt (runF_eq C_addr_Text (clD C_addr_Text 0) (hdOf C_addr_Text hd_addr_Text) 15 [Ty.str] (res1 Ty.str) n _)).trans ((en_addr_Text (Lfix C_addr_Text (clD C_addr_Text 0) (hdOf C_addr_Text hd_addr_Text) (finW C_addr_Text 15 [Ty.str] (res1 Ty.str)) n) a0).trans (congrArg (fun x => addr_Text_e  x  a0) e0))
theorem ok_addr_Text : SpecOK C_addr_Text 15 sp_addr_Text := by
  have hS := specs_ok (C := C_addr_Text) (l := us_addr_Text) rfl ⟨ok_strconv_Itoa.re rfl rfl rfl, ok_strings_Join.re rfl rfl rfl, trivial⟩
  refine spec_ok (C := C_addr_Text) (cl := (clD C_addr_Text 0)) (hd := (hdOf C_addr_Text hd_addr_Text)) envOK (tyOK_of (l := tab) rfl tabT) hS (clD_ok envOK (tyOK_of (l := tab) rfl tabT) hS mixed (inl_ok (l := []) rfl (by kernel_rfl)) _) mixed (hdOf_ok envOK hd_addr_Text) (by kernel_rfl) [Ty.str] (res1 Ty.str) (de1 (S := S) Ty.str) fun cs r h => ?_
  obtain ⟨a0, rfl, h⟩ := inv1 h
  exact ⟨big, (ev_addr_Text big a0).trans ((def_addr_Text a0).symm.trans h)⟩
-- lodger/addr.May
def addr_May_b  (a0 : Block) : Option (Bool) := (bif (decide (a0.pre < 16)) then some false else (bif (decide (a0.pre > 32)) then some false else (bif (decide ((IntKind.wrap .u64 (IntKind.wrap .i64 (32 - a0.pre))) < 0)) then none else some ((bit_and .u64 (IntKind.wrap .u64 a0.base) (IntKind.wrap .u64 ((shl .u64 1 (IntKind.wrap .u64 (IntKind.wrap .i64 (32 - a0.pre)))) - 1))) == 0))))
def sp_addr_May : Spec S := { args := [(Ty.st 0)], R := Bool, run := run1 (Ty.st 0) addr_May, enc := enc1 (S := S) Ty.bool }
def spb_addr_May (F : Block → Option (Bool)) : Spec S := { args := [(Ty.st 0)], R := Bool, run := run1 (Ty.st 0) F, enc := enc1 (S := S) Ty.bool }
def usb_addr_May  : List (Nat × Spec S) := []
def us_addr_May : List (Nat × Spec S) := []
noncomputable def Cb_addr_May  : Ctx S := { P := Tryd.prog, E := E, ty := tyL tab, G := glL gtab, spec := spL (usb_addr_May ), inl := inL [] }
noncomputable def C_addr_May : Ctx S := Cb_addr_May 
theorem evb_addr_May  (L : (St S → D (Bool)) → Lp S (Bool)) (a0 : Block) : (runWF (Cb_addr_May ) (clDF (Cb_addr_May ) 0) L 17 [Ty.bool] (res1 Ty.bool) [encV E (Ty.st 0) a0]).opt = addr_May_b  a0 := by kernel_rfl
theorem ev_addr_May (L : (St S → D (Bool)) → Lp S (Bool)) (a0 : Block) : (runW C_addr_May (clD C_addr_May 0) L 17 [Ty.bool] (res1 Ty.bool) [encV E (Ty.st 0) a0]).opt = addr_May a0 := (congrArg D.opt (runWF_eq _ _ L _ _ _ _)).trans (evb_addr_May  L a0)
theorem ok_addr_May : SpecOK C_addr_May 17 sp_addr_May := by
  have hS := specs_ok (C := C_addr_May) (l := us_addr_May) rfl trivial
  refine spec_ok (C := C_addr_May) (cl := (clD C_addr_May 0)) (hd := (fun _ s => some s)) envOK (tyOK_of (l := tab) rfl tabT) hS (clD_ok envOK (tyOK_of (l := tab) rfl tabT) hS mixed (inl_ok (l := []) rfl (by kernel_rfl)) _) mixed HdOK.id (by kernel_rfl) [Ty.bool] (res1 Ty.bool) (de1 (S := S) Ty.bool) fun cs r h => ?_
  obtain ⟨a0, rfl, h⟩ := inv1 h
  exact ⟨0, (ev_addr_May _ a0).trans h⟩
-- lodger/addr.BlockText
def addr_BlockText_b (g_addr_Text : Int → Option ((List UInt8))) (g_addr_May : Block → Option (Bool)) (g_strconv_Itoa : Int → Option ((List UInt8))) (a0 : Block) : Option ((List UInt8) × Int) := ((g_addr_May a0).bind fun r1 => (bif (not r1) then some (([] : List UInt8), 2) else ((g_addr_Text a0.base).bind fun r2 => (bif (decide (r2.length + ([47] : List UInt8).length ≤ 1152921504606846976)) then ((g_strconv_Itoa a0.pre).bind fun r3 => (bif (decide ((r2 ++ ([47] : List UInt8)).length + r3.length ≤ 1152921504606846976)) then some (((r2 ++ ([47] : List UInt8)) ++ r3), 0) else none)) else none))))
def sp_addr_BlockText : Spec S := { args := [(Ty.st 0)], R := (List UInt8) × Int, run := run1 (Ty.st 0) addr_BlockText, enc := enc2 (S := S) Ty.str i64 }
def spb_addr_BlockText (F : Block → Option ((List UInt8) × Int)) : Spec S := { args := [(Ty.st 0)], R := (List UInt8) × Int, run := run1 (Ty.st 0) F, enc := enc2 (S := S) Ty.str i64 }
def usb_addr_BlockText (g_addr_Text : Int → Option ((List UInt8))) (g_addr_May : Block → Option (Bool)) (g_strconv_Itoa : Int → Option ((List UInt8))) : List (Nat × Spec S) := [(15, spb_addr_Text g_addr_Text), (17, spb_addr_May g_addr_May), (20, spb_strconv_Itoa g_strconv_Itoa)]
def us_addr_BlockText : List (Nat × Spec S) := [(15, sp_addr_Text), (17, sp_addr_May), (20, sp_strconv_Itoa)]
noncomputable def Cb_addr_BlockText (g_addr_Text : Int → Option ((List UInt8))) (g_addr_May : Block → Option (Bool)) (g_strconv_Itoa : Int → Option ((List UInt8))) : Ctx S := { P := Tryd.prog, E := E, ty := tyL tab, G := glL gtab, spec := spL (usb_addr_BlockText g_addr_Text g_addr_May g_strconv_Itoa), inl := inL [] }
noncomputable def C_addr_BlockText : Ctx S := Cb_addr_BlockText addr_Text addr_May strconv_Itoa
theorem evb_addr_BlockText (g_addr_Text : Int → Option ((List UInt8))) (g_addr_May : Block → Option (Bool)) (g_strconv_Itoa : Int → Option ((List UInt8))) (L : (St S → D ((List UInt8) × Int)) → Lp S ((List UInt8) × Int)) (a0 : Block) : (runWF (Cb_addr_BlockText g_addr_Text g_addr_May g_strconv_Itoa) (clDF (Cb_addr_BlockText g_addr_Text g_addr_May g_strconv_Itoa) 0) L 9 [Ty.str, i64] (res2 Ty.str i64) [encV E (Ty.st 0) a0]).opt = addr_BlockText_b g_addr_Text g_addr_May g_strconv_Itoa a0 := by kernel_rfl
theorem ev_addr_BlockText (L : (St S → D ((List UInt8) × Int)) → Lp S ((List UInt8) × Int)) (a0 : Block) : (runW C_addr_BlockText (clD C_addr_BlockText 0) L 9 [Ty.str, i64] (res2 Ty.str i64) [encV E (Ty.st 0) a0]).opt = addr_BlockText a0 := (congrArg D.opt (runWF_eq _ _ L _ _ _ _)).trans (evb_addr_BlockText addr_Text addr_May strconv_Itoa L a0)
theorem ok_addr_BlockText : SpecOK C_addr_BlockText 9 sp_addr_BlockText := by
  have hS := specs_ok (C := C_addr_BlockText) (l := us_addr_BlockText) rfl ⟨ok_addr_Text.re rfl rfl rfl, ok_addr_May.re rfl rfl rfl, ok_strconv_Itoa.re rfl rfl rfl, trivial⟩
  refine spec_ok (C := C_addr_BlockText) (cl := (clD C_addr_BlockText 0)) (hd := (fun _ s => some s)) envOK (tyOK_of (l := tab) rfl tabT) hS (clD_ok envOK (tyOK_of (l := tab) rfl tabT) hS mixed (inl_ok (l := []) rfl (by kernel_rfl)) _) mixed HdOK.id (by kernel_rfl) [Ty.str, i64] (res2 Ty.str i64) (de2 (S := S) Ty.str i64) fun cs r h => ?_
  obtain ⟨a0, rfl, h⟩ := inv1 h
  exact ⟨0, (ev_addr_BlockText _ a0).trans h⟩
-- strings.Split
end Go.Lv.Ld
namespace Go.Proofs
open Go.Shelf
def Tryd.lvstrings_Split_ren : Go.Shelf.Ren := ⟨fun | 146 => 22 | 221 => 29 | 268 => 37 | 138 => 38 | 143 => 39 | 195 => 52 | 197 => 53 | 218 => 54 | 219 => 45 | 260 => 69 | 217 => 58 | 225 => 59 | 224 => 60 | 267 => 61 | 266 => 72 | 314 => 73 | n => n, fun | 9 => 9 | 31 => 50 | 3 => 3 | 4 => 4 | 0 => 0 | 105 => 86 | 21 => 21 | 5 => 5 | 46 => 44 | 119 => 111 | 139 => 114 | 138 => 113 | 146 => 108 | 51 => 22 | n => n, fun | 1 => 2 | 3 => 4 | 4 => 5 | n => n⟩
theorem Tryd.lvstrings_Split : Go.Proofs.LaysM.n146 Tryd.prog Tryd.lvstrings_Split_ren := {
  mixed := by kernel_rfl
  f138 := Tryd.func38.trans (congrArg some (by kernel_rfl))
  f143 := Tryd.func39.trans (congrArg some (by kernel_rfl))
  f146 := Tryd.func22.trans (congrArg some (by kernel_rfl))
  f195 := Tryd.func52.trans (congrArg some (by kernel_rfl))
  f197 := Tryd.func53.trans (congrArg some (by kernel_rfl))
  f217 := Tryd.func58.trans (congrArg some (by kernel_rfl))
  f218 := Tryd.func54.trans (congrArg some (by kernel_rfl))
  f219 := Tryd.func45.trans (congrArg some (by kernel_rfl))
  f221 := Tryd.func29.trans (congrArg some (by kernel_rfl))
  f224 := Tryd.func60.trans (congrArg some (by kernel_rfl))
  f225 := Tryd.func59.trans (congrArg some (by kernel_rfl))
  f260 := Tryd.func69.trans (congrArg some (by kernel_rfl))
  f266 := Tryd.func72.trans (congrArg some (by kernel_rfl))
  f267 := Tryd.func61.trans (congrArg some (by kernel_rfl))
  f268 := Tryd.func37.trans (congrArg some (by kernel_rfl))
  f314 := Tryd.func73.trans (congrArg some (by kernel_rfl))
  t0 := Tryd.underlying0
  a0 := Tryd.isAgg0
  z0 := Tryd.sizeOf0
  v0 := Tryd.zeroValue0
  t3 := Tryd.underlying3
  a3 := Tryd.isAgg3
  z3 := Tryd.sizeOf3
  v3 := Tryd.zeroValue3
  t4 := Tryd.underlying4
  a4 := Tryd.isAgg4
  z4 := Tryd.sizeOf4
  v4 := Tryd.zeroValue4
  t5 := Tryd.underlying5
  a5 := Tryd.isAgg5
  z5 := Tryd.sizeOf5
  v5 := Tryd.zeroValue5
  t9 := Tryd.underlying9
  a9 := Tryd.isAgg9
  z9 := Tryd.sizeOf9
  v9 := Tryd.zeroValue9
  t21 := Tryd.underlying21
  a21 := Tryd.isAgg21
  z21 := Tryd.sizeOf21
  v21 := Tryd.zeroValue21
  t31 := Tryd.underlying50
  a31 := Tryd.isAgg50
  z31 := Tryd.sizeOf50
  v31 := Tryd.zeroValue50
  t46 := Tryd.underlying44
  a46 := Tryd.isAgg44
  z46 := Tryd.sizeOf44
  v46 := Tryd.zeroValue44
  t51 := Tryd.underlying22
  a51 := Tryd.isAgg22
  z51 := Tryd.sizeOf22
  v51 := Tryd.zeroValue22
  t105 := Tryd.underlying86
  a105 := Tryd.isAgg86
  z105 := Tryd.sizeOf86
  v105 := Tryd.zeroValue86
  t119 := Tryd.underlying111
  a119 := Tryd.isAgg111
  z119 := Tryd.sizeOf111
  t138 := Tryd.underlying113
  a138 := Tryd.isAgg113
  z138 := Tryd.sizeOf113
  v138 := Tryd.zeroValue113
  t139 := Tryd.underlying114
  a139 := Tryd.isAgg114
  z139 := Tryd.sizeOf114
  v139 := Tryd.zeroValue114
  t146 := Tryd.underlying108
  a146 := Tryd.isAgg108
  z146 := Tryd.sizeOf108
  v146 := Tryd.zeroValue108
  g1 := by kernel_rfl
  g3 := by kernel_rfl
  g4 := by kernel_rfl
  i0 := by kernel_rfl
  i3 := by kernel_rfl
  i4 := by kernel_rfl
  i5 := by kernel_rfl
  i9 := by kernel_rfl
  i21 := by kernel_rfl
  i31 := by kernel_rfl
  i46 := by kernel_rfl
  i51 := by kernel_rfl
  i105 := by kernel_rfl
  i138 := by kernel_rfl
  i139 := by kernel_rfl
  i146 := by kernel_rfl
  m1 := by kernel_rfl
  s1_3 := fun w h => Go.Proofs.cell_of_shapedOpen_int (zero := #[.int .i64 0]) (t := 3) h (of_decide_eq_true (by kernel_rfl)) (by kernel_rfl) rfl (by kernel_rfl) (by kernel_rfl) Tryd.underlying3
  m3 := by kernel_rfl
  m4 := by kernel_rfl }
end Go.Proofs
namespace Go.Lv.Ld
open Go Go.Lv Go.Proofs
set_option linter.all false
set_option maxRecDepth 100000
def sp_strings_Split : Spec S := { args := [Ty.str, Ty.str], R := (List (List UInt8)), run := run2 Ty.str Ty.str strings_Split, enc := enc1 (S := S) (Ty.slice Ty.str) }
def spb_strings_Split (F : (List UInt8) → (List UInt8) → Option ((List (List UInt8)))) : Spec S := { args := [Ty.str, Ty.str], R := (List (List UInt8)), run := run2 Ty.str Ty.str F, enc := enc1 (S := S) (Ty.slice Ty.str) }
noncomputable def C_strings_Split : Ctx S := { P := Tryd.prog, E := E, ty := tyL tab, G := glL gtab, spec := fun _ => none, inl := fun _ => false }
theorem ok_strings_Split : SpecOK C_strings_Split 22 sp_strings_Split := ok_Split (C := C_strings_Split) (ρ := Tryd.lvstrings_Split_ren) { Tryd.lvstrings_Split with } (lvEnters (by kernel_rfl)) Tryd.lvstrings_Split.i9
-- strconv.Atoi
end Go.Lv.Ld
namespace Go.Proofs
open Go.Shelf
def Tryd.lvstrconv_Atoi_ren : Go.Shelf.Ren := ⟨fun | 172 => 23 | 244 => 30 | 245 => 31 | 247 => 40 | 279 => 41 | 280 => 42 | 281 => 43 | 282 => 44 | 287 => 55 | 316 => 56 | 171 => 20 | 205 => 57 | 321 => 70 | 322 => 71 | 243 => 28 | 246 => 36 | 283 => 48 | 284 => 49 | 285 => 50 | 286 => 51 | 129 => 65 | 317 => 64 | 318 => 66 | 319 => 67 | 320 => 68 | 337 => 74 | 338 => 75 | n => n, fun | 9 => 9 | 3 => 3 | 75 => 53 | 76 => 54 | 4 => 4 | 5 => 5 | 167 => 73 | 37 => 46 | 0 => 0 | 85 => 74 | 2 => 2 | 168 => 76 | 53 => 43 | 175 => 89 | 46 => 44 | 210 => 93 | 127 => 79 | 145 => 107 | 143 => 105 | 21 => 21 | 171 => 80 | 173 => 83 | 212 => 99 | 51 => 22 | 20 => 20 | 213 => 100 | 232 => 115 | 233 => 116 | 80 => 69 | n => n, fun | 15 => 0 | 16 => 1 | 17 => 3 | 18 => 6 | 19 => 7 | n => n⟩
theorem Tryd.lvstrconv_Atoi : Go.Proofs.LaysC.n172 Tryd.prog Tryd.lvstrconv_Atoi_ren := {
  mixed := by kernel_rfl
  f129 := Tryd.func65.trans (congrArg some (by kernel_rfl))
  f171 := Tryd.func20.trans (congrArg some (by kernel_rfl))
  f172 := Tryd.func23.trans (congrArg some (by kernel_rfl))
  f205 := Tryd.func57.trans (congrArg some (by kernel_rfl))
  f243 := Tryd.func28.trans (congrArg some (by kernel_rfl))
  f244 := Tryd.func30.trans (congrArg some (by kernel_rfl))
  f245 := Tryd.func31.trans (congrArg some (by kernel_rfl))
  f246 := Tryd.func36.trans (congrArg some (by kernel_rfl))
  f247 := Tryd.func40.trans (congrArg some (by kernel_rfl))
  f279 := Tryd.func41.trans (congrArg some (by kernel_rfl))
  f280 := Tryd.func42.trans (congrArg some (by kernel_rfl))
  f281 := Tryd.func43.trans (congrArg some (by kernel_rfl))
  f282 := Tryd.func44.trans (congrArg some (by kernel_rfl))
  f283 := Tryd.func48.trans (congrArg some (by kernel_rfl))
  f284 := Tryd.func49.trans (congrArg some (by kernel_rfl))
  f285 := Tryd.func50.trans (congrArg some (by kernel_rfl))
  f286 := Tryd.func51.trans (congrArg some (by kernel_rfl))
  f287 := Tryd.func55.trans (congrArg some (by kernel_rfl))
  f316 := Tryd.func56.trans (congrArg some (by kernel_rfl))
  f317 := Tryd.func64.trans (congrArg some (by kernel_rfl))
  f318 := Tryd.func66.trans (congrArg some (by kernel_rfl))
  f319 := Tryd.func67.trans (congrArg some (by kernel_rfl))
  f320 := Tryd.func68.trans (congrArg some (by kernel_rfl))
  f321 := Tryd.func70.trans (congrArg some (by kernel_rfl))
  f322 := Tryd.func71.trans (congrArg some (by kernel_rfl))
  f337 := Tryd.func74.trans (congrArg some (by kernel_rfl))
  f338 := Tryd.func75.trans (congrArg some (by kernel_rfl))
  t0 := Tryd.underlying0
  a0 := Tryd.isAgg0
  z0 := Tryd.sizeOf0
  v0 := Tryd.zeroValue0
  t2 := Tryd.underlying2
  a2 := Tryd.isAgg2
  z2 := Tryd.sizeOf2
  v2 := Tryd.zeroValue2
  t3 := Tryd.underlying3
  a3 := Tryd.isAgg3
  z3 := Tryd.sizeOf3
  v3 := Tryd.zeroValue3
  t4 := Tryd.underlying4
  a4 := Tryd.isAgg4
  z4 := Tryd.sizeOf4
  v4 := Tryd.zeroValue4
  t5 := Tryd.underlying5
  a5 := Tryd.isAgg5
  z5 := Tryd.sizeOf5
  v5 := Tryd.zeroValue5
  t9 := Tryd.underlying9
  a9 := Tryd.isAgg9
  z9 := Tryd.sizeOf9
  v9 := Tryd.zeroValue9
  t20 := Tryd.underlying20
  a20 := Tryd.isAgg20
  z20 := Tryd.sizeOf20
  v20 := Tryd.zeroValue20
  t21 := Tryd.underlying21
  a21 := Tryd.isAgg21
  z21 := Tryd.sizeOf21
  v21 := Tryd.zeroValue21
  t37 := Tryd.underlying46
  a37 := Tryd.isAgg46
  z37 := Tryd.sizeOf46
  v37 := Tryd.zeroValue46
  t46 := Tryd.underlying44
  a46 := Tryd.isAgg44
  z46 := Tryd.sizeOf44
  v46 := Tryd.zeroValue44
  t51 := Tryd.underlying22
  a51 := Tryd.isAgg22
  z51 := Tryd.sizeOf22
  v51 := Tryd.zeroValue22
  t53 := Tryd.underlying43
  a53 := Tryd.isAgg43
  z53 := Tryd.sizeOf43
  v53 := Tryd.zeroValue43
  t75 := Tryd.underlying53
  a75 := Tryd.isAgg53
  z75 := Tryd.sizeOf53
  v75 := Tryd.zeroValue53
  t76 := Tryd.underlying54
  a76 := Tryd.isAgg54
  z76 := Tryd.sizeOf54
  v76 := Tryd.zeroValue54
  t85 := Tryd.underlying74
  a85 := Tryd.isAgg74
  z85 := Tryd.sizeOf74
  v85 := Tryd.zeroValue74
  t127 := Tryd.underlying79
  a127 := Tryd.isAgg79
  z127 := Tryd.sizeOf79
  v127 := Tryd.zeroValue79
  t143 := Tryd.underlying105
  a143 := Tryd.isAgg105
  z143 := Tryd.sizeOf105
  v143 := Tryd.zeroValue105
  t145 := Tryd.underlying107
  a145 := Tryd.isAgg107
  z145 := Tryd.sizeOf107
  v145 := Tryd.zeroValue107
  t167 := Tryd.underlying73
  a167 := Tryd.isAgg73
  z167 := Tryd.sizeOf73
  v167 := Tryd.zeroValue73
  t168 := Tryd.underlying76
  a168 := Tryd.isAgg76
  z168 := Tryd.sizeOf76
  v168 := Tryd.zeroValue76
  t171 := Tryd.underlying80
  a171 := Tryd.isAgg80
  z171 := Tryd.sizeOf80
  v171 := Tryd.zeroValue80
  t173 := Tryd.underlying83
  a173 := Tryd.isAgg83
  z173 := Tryd.sizeOf83
  v173 := Tryd.zeroValue83
  t175 := Tryd.underlying89
  a175 := Tryd.isAgg89
  z175 := Tryd.sizeOf89
  v175 := Tryd.zeroValue89
  t210 := Tryd.underlying93
  a210 := Tryd.isAgg93
  z210 := Tryd.sizeOf93
  v210 := Tryd.zeroValue93
  t212 := Tryd.underlying99
  a212 := Tryd.isAgg99
  z212 := Tryd.sizeOf99
  v212 := Tryd.zeroValue99
  t213 := Tryd.underlying100
  a213 := Tryd.isAgg100
  z213 := Tryd.sizeOf100
  t232 := Tryd.underlying115
  a232 := Tryd.isAgg115
  z232 := Tryd.sizeOf115
  v232 := Tryd.zeroValue115
  t233 := Tryd.underlying116
  a233 := Tryd.isAgg116
  z233 := Tryd.sizeOf116
  v233 := Tryd.zeroValue116
  g15 := by kernel_rfl
  g16 := by kernel_rfl
  g17 := by kernel_rfl
  g18 := by kernel_rfl
  g19 := by kernel_rfl
  t80 := Tryd.underlying69
  a80 := Tryd.isAgg69
  z80 := Tryd.sizeOf69
  v80 := Tryd.zeroValue69
  i0 := by kernel_rfl
  i2 := by kernel_rfl
  i3 := by kernel_rfl
  i4 := by kernel_rfl
  i5 := by kernel_rfl
  i9 := by kernel_rfl
  i20 := by kernel_rfl
  i21 := by kernel_rfl
  i37 := by kernel_rfl
  i46 := by kernel_rfl
  i51 := by kernel_rfl
  i53 := by kernel_rfl
  i75 := by kernel_rfl
  i76 := by kernel_rfl
  i80 := by kernel_rfl
  i85 := by kernel_rfl
  i127 := by kernel_rfl
  i143 := by kernel_rfl
  i145 := by kernel_rfl
  i167 := by kernel_rfl
  i168 := by kernel_rfl
  i171 := by kernel_rfl
  i173 := by kernel_rfl
  i175 := by kernel_rfl
  i210 := by kernel_rfl
  i212 := by kernel_rfl
  i232 := by kernel_rfl
  i233 := by kernel_rfl
  m15 := by kernel_rfl
  m16 := by kernel_rfl
  m17 := by kernel_rfl
  m18 := by kernel_rfl
  m19 := by kernel_rfl
  c0 := by kernel_rfl
  c2 := by kernel_rfl
  c3 := by kernel_rfl
  c4 := by kernel_rfl
  c5 := by kernel_rfl
  c9 := by kernel_rfl
  c20 := by kernel_rfl
  c21 := by kernel_rfl
  c37 := by kernel_rfl
  c46 := by kernel_rfl
  c51 := by kernel_rfl
  c53 := by kernel_rfl
  c75 := by kernel_rfl
  c76 := by kernel_rfl
  c80 := by kernel_rfl
  c85 := by kernel_rfl
  c127 := by kernel_rfl
  c143 := by kernel_rfl
  c145 := by kernel_rfl
  c167 := by kernel_rfl
  c168 := by kernel_rfl
  c171 := by kernel_rfl
  c173 := by kernel_rfl
  c175 := by kernel_rfl
  c210 := by kernel_rfl
  c212 := by kernel_rfl
  c213 := by kernel_rfl
  c232 := by kernel_rfl
  c233 := by kernel_rfl }
end Go.Proofs
namespace Go.Lv.Ld
open Go Go.Lv Go.Proofs
set_option linter.all false
set_option maxRecDepth 100000
def sp_strconv_Atoi : Spec S := { args := [Ty.str], R := Int × Bool, run := run1 Ty.str strconv_Atoi, enc := enc2 (S := S) i64 Ty.err }
def spb_strconv_Atoi (F : (List UInt8) → Option (Int × Bool)) : Spec S := { args := [Ty.str], R := Int × Bool, run := run1 Ty.str F, enc := enc2 (S := S) i64 Ty.err }
noncomputable def C_strconv_Atoi : Ctx S := { P := Tryd.prog, E := E, ty := tyL tab, G := glL gtab, spec := fun _ => none, inl := fun _ => false }
theorem ok_strconv_Atoi : SpecOK C_strconv_Atoi 23 sp_strconv_Atoi := ok_Atoi (C := C_strconv_Atoi) (ρ := Tryd.lvstrconv_Atoi_ren) Tryd.lvstrconv_Atoi (lvEnters (by kernel_rfl)) (by kernel_rfl) (by kernel_rfl)
-- lodger/addr.Parse
def addr_Parse_s0b (g_addr_Text : Int → Option ((List UInt8))) (g_strings_Split : (List UInt8) → (List UInt8) → Option ((List (List UInt8)))) (g_strconv_Atoi : (List UInt8) → Option (Int × Bool)) (k0 : (List UInt8) → (List (List UInt8)) → Int → (List (List UInt8)) → Int → Int → Option (Int × Int)) (s0 : (List UInt8)) (s4 : (List (List UInt8))) (s5 : Int) (s12 : (List (List UInt8))) (s13 : Int) (s14 : Int) : Option (Int × Int) := (bif (decide (s14 < s13)) then ((geti s12 s14).bind fun x2 => ((g_strconv_Atoi x2).bind fun r3 => (bif r3.2 then (bif ((List.length s4 : Int) != 4) then some (0, 2) else ((g_addr_Text s5).bind fun r4 => (bif (!(r4 == s0)) then some (0, 2) else some (s5, 0)))) else (bif (decide (r3.1 < 0)) then (bif ((List.length s4 : Int) != 4) then some (0, 2) else ((g_addr_Text s5).bind fun r5 => (bif (!(r5 == s0)) then some (0, 2) else some (s5, 0)))) else (bif (decide (r3.1 > 255)) then (bif ((List.length s4 : Int) != 4) then some (0, 2) else ((g_addr_Text s5).bind fun r6 => (bif (!(r6 == s0)) then some (0, 2) else some (s5, 0)))) else k0 s0 s4 (bit_or .u32 (shl .u32 s5 8) (IntKind.wrap .u32 r3.1)) s12 s13 (IntKind.wrap .i64 (s14 + 1))))))) else (bif ((List.length s4 : Int) != 4) then some (0, 2) else ((g_addr_Text s5).bind fun r7 => (bif (!(r7 == s0)) then some (0, 2) else some (s5, 0)))))
def addr_Parse_eb (g_addr_Text : Int → Option ((List UInt8))) (g_strings_Split : (List UInt8) → (List UInt8) → Option ((List (List UInt8)))) (g_strconv_Atoi : (List UInt8) → Option (Int × Bool)) (k0 : (List UInt8) → (List (List UInt8)) → Int → (List (List UInt8)) → Int → Int → Option (Int × Int)) (a0 : (List UInt8)) : Option (Int × Int) := ((g_strings_Split a0 ([46] : List UInt8)).bind fun r1 => k0 a0 r1 0 r1 (List.length r1 : Int) 0)
def sp_addr_Parse : Spec S := { args := [Ty.str], R := Int × Int, run := run1 Ty.str addr_Parse, enc := enc2 (S := S) u32 i64 }
def spb_addr_Parse (F : (List UInt8) → Option (Int × Int)) : Spec S := { args := [Ty.str], R := Int × Int, run := run1 Ty.str F, enc := enc2 (S := S) u32 i64 }
def usb_addr_Parse (g_addr_Text : Int → Option ((List UInt8))) (g_strings_Split : (List UInt8) → (List UInt8) → Option ((List (List UInt8)))) (g_strconv_Atoi : (List UInt8) → Option (Int × Bool)) : List (Nat × Spec S) := [(15, spb_addr_Text g_addr_Text), (22, spb_strings_Split g_strings_Split), (23, spb_strconv_Atoi g_strconv_Atoi)]
def us_addr_Parse : List (Nat × Spec S) := [(15, sp_addr_Text), (22, sp_strings_Split), (23, sp_strconv_Atoi)]
noncomputable def Cb_addr_Parse (g_addr_Text : Int → Option ((List UInt8))) (g_strings_Split : (List UInt8) → (List UInt8) → Option ((List (List UInt8)))) (g_strconv_Atoi : (List UInt8) → Option (Int × Bool)) : Ctx S := { P := Tryd.prog, E := E, ty := tyL tab, G := glL gtab, spec := spL (usb_addr_Parse g_addr_Text g_strings_Split g_strconv_Atoi), inl := inL [] }
noncomputable def C_addr_Parse : Ctx S := Cb_addr_Parse addr_Text strings_Split strconv_Atoi
def hd_addr_Parse : List ((Nat × Nat) × List Hs) := [((3, 4), [.canon 0 [] [0, 4, 5, 12, 13, 14], .plain 0 Ty.str, .plain 4 (Ty.slice Ty.str), .plain 5 u32, .plain 12 (Ty.slice Ty.str), .plain 13 i64, .plain 14 i64])]
def h0_addr_Parse (s0 : (List UInt8)) (s4 : (List (List UInt8))) (s5 : Int) (s12 : (List (List UInt8))) (s13 : Int) (s14 : Int) : St S := { tmps := [.cell Ty.str s0, .undef, .undef, .undef, .cell (Ty.slice Ty.str) s4, .cell u32 s5, .undef, .undef, .undef, .undef, .undef, .undef, .cell (Ty.slice Ty.str) s12, .cell i64 s13, .cell i64 s14, .undef, .undef, .undef, .undef, .undef, .undef, .undef, .undef, .undef, .undef, .undef, .undef, .undef, .undef, .undef, .undef, .undef, .undef, .undef, .undef, .undef, .undef, .undef, .undef, .undef, .undef, .undef, .undef, .undef, .undef, .undef, .undef, .undef, .undef], mem := [] }
theorem rdb0_addr_Parse (g_addr_Text : Int → Option ((List UInt8))) (g_strings_Split : (List UInt8) → (List UInt8) → Option ((List (List UInt8)))) (g_strconv_Atoi : (List UInt8) → Option (Int × Bool)) (L : Lp S (Int × Int)) (s0 : (List UInt8)) (s4 : (List (List UInt8))) (s5 : Int) (s12 : (List (List UInt8))) (s13 : Int) (s14 : Int) : (roundWF (Cb_addr_Parse g_addr_Text g_strings_Split g_strconv_Atoi) (clDF (Cb_addr_Parse g_addr_Text g_strings_Split g_strconv_Atoi) 0) (hdOf (Cb_addr_Parse g_addr_Text g_strings_Split g_strconv_Atoi) hd_addr_Parse) 11 0 [u32, i64] (res2 u32 i64) L (h0_addr_Parse s0 s4 s5 s12 s13 s14)).opt = addr_Parse_s0b g_addr_Text g_strings_Split g_strconv_Atoi (fun s0 s4 s5 s12 s13 s14 => (L (todoOf (Cb_addr_Parse g_addr_Text g_strings_Split g_strconv_Atoi) 11 0) (h0_addr_Parse s0 s4 s5 s12 s13 s14)).opt) s0 s4 s5 s12 s13 s14 := by kernel_rfl
theorem rd0_addr_Parse (L : Lp S (Int × Int)) (s0 : (List UInt8)) (s4 : (List (List UInt8))) (s5 : Int) (s12 : (List (List UInt8))) (s13 : Int) (s14 : Int) : (roundW C_addr_Parse (clD C_addr_Parse 0) (hdOf C_addr_Parse hd_addr_Parse) 11 0 [u32, i64] (res2 u32 i64) L (h0_addr_Parse s0 s4 s5 s12 s13 s14)).opt = addr_Parse_s0 (fun s0 s4 s5 s12 s13 s14 => (L (todoOf C_addr_Parse 11 0) (h0_addr_Parse s0 s4 s5 s12 s13 s14)).opt) s0 s4 s5 s12 s13 s14 := (congrArg D.opt (roundWF_eq _ _ _ _ _ _ _ L _)).trans (rdb0_addr_Parse addr_Text strings_Split strconv_Atoi L s0 s4 s5 s12 s13 s14)
theorem enb_addr_Parse (g_addr_Text : Int → Option ((List UInt8))) (g_strings_Split : (List UInt8) → (List UInt8) → Option ((List (List UInt8)))) (g_strconv_Atoi : (List UInt8) → Option (Int × Bool)) (L : Lp S (Int × Int)) (a0 : (List UInt8)) : (runWF (Cb_addr_Parse g_addr_Text g_strings_Split g_strconv_Atoi) (clDF (Cb_addr_Parse g_addr_Text g_strings_Split g_strconv_Atoi) 0) (fun _ => canonL (hdOf (Cb_addr_Parse g_addr_Text g_strings_Split g_strconv_Atoi) hd_addr_Parse) L) 11 [u32, i64] (res2 u32 i64) [encV E Ty.str a0]).opt = addr_Parse_eb g_addr_Text g_strings_Split g_strconv_Atoi (fun s0 s4 s5 s12 s13 s14 => (L (todoOf (Cb_addr_Parse g_addr_Text g_strings_Split g_strconv_Atoi) 11 0) (h0_addr_Parse s0 s4 s5 s12 s13 s14)).opt) a0 := by kernel_rfl
theorem en_addr_Parse (L : Lp S (Int × Int)) (a0 : (List UInt8)) : (runW C_addr_Parse (clD C_addr_Parse 0) (fun _ => canonL (hdOf C_addr_Parse hd_addr_Parse) L) 11 [u32, i64] (res2 u32 i64) [encV E Ty.str a0]).opt = addr_Parse_e (fun s0 s4 s5 s12 s13 s14 => (L (todoOf C_addr_Parse 11 0) (h0_addr_Parse s0 s4 s5 s12 s13 s14)).opt) a0 := (congrArg D.opt (runWF_eq _ _ _ _ _ _ _)).trans (enb_addr_Parse addr_Text strings_Split strconv_Atoi L a0)
theorem fx_addr_Parse : ∀ n, (∀ (s0 : (List UInt8)) (s4 : (List (List UInt8))) (s5 : Int) (s12 : (List (List UInt8))) (s13 : Int) (s14 : Int), (Lfix C_addr_Parse (clD C_addr_Parse 0) (hdOf C_addr_Parse hd_addr_Parse) (finW C_addr_Parse 11 [u32, i64] (res2 u32 i64)) n (todoOf C_addr_Parse 11 0) (h0_addr_Parse s0 s4 s5 s12 s13 s14)).opt = addr_Parse_l0 n s0 s4 s5 s12 s13 s14)
  | 0 => fun _ _ _ _ _ _ => rfl
  | n + 1 => by
    have ih := fx_addr_Parse n
    have e0 : (fun s0 s4 s5 s12 s13 s14 => (Lfix C_addr_Parse (clD C_addr_Parse 0) (hdOf C_addr_Parse hd_addr_Parse) (finW C_addr_Parse 11 [u32, i64] (res2 u32 i64)) n (todoOf C_addr_Parse 11 0) (h0_addr_Parse s0 s4 s5 s12 s13 s14)).opt) = addr_Parse_l0 n := funext fun s0 => funext fun s4 => funext fun s5 => funext fun s12 => funext fun s13 => funext fun s14 => ih s0 s4 s5 s12 s13 s14
    exact fun s0 s4 s5 s12 s13 s14 => (congrArg D.opt (Lfix_round C_addr_Parse (clD C_addr_Parse 0) (hdOf C_addr_Parse hd_addr_Parse) 11 0 [u32, i64] (res2 u32 i64) n _)).trans ((rd0_addr_Parse (Lfix C_addr_Parse (clD C_addr_Parse 0) (hdOf C_addr_Parse hd_addr_Parse) (finW C_addr_Parse 11 [u32, i64] (res2 u32 i64)) n) s0 s4 s5 s12 s13 s14).trans (congrArg (fun x => addr_Parse_s0  x  s0 s4 s5 s12 s13 s14) e0))
theorem ev_addr_Parse (n : Nat) (a0 : (List UInt8)) : (runF C_addr_Parse (clD C_addr_Parse 0) (hdOf C_addr_Parse hd_addr_Parse) 11 [u32, i64] (res2 u32 i64) n [encV E Ty.str a0]).opt = addr_Parse_n n a0 := by
  have ih := fx_addr_Parse n
  have e0 : (fun s0 s4 s5 s12 s13 s14 => (Lfix C_addr_Parse (clD C_addr_Parse 0) (hdOf C_addr_Parse hd_addr_Parse) (finW C_addr_Parse 11 [u32, i64] (res2 u32 i64)) n (todoOf C_addr_Parse 11 0) (h0_addr_Parse s0 s4 s5 s12 s13 s14)).opt) = addr_Parse_l0 n := funext fun s0 => funext fun s4 => funext fun s5 => funext fun s12 => funext fun s13 => funext fun s14 => ih s0 s4 s5 s12 s13 s14
  exact (congrArg D.opt (runF_eq C_addr_Parse (clD C_addr_Parse 0) (hdOf C_addr_Parse hd_addr_Parse) 11 [u32, i64] (res2 u32 i64) n _)).trans ((en_addr_Parse (Lfix C_addr_Parse (clD C_addr_Parse 0) (hdOf C_addr_Parse hd_addr_Parse) (finW C_addr_Parse 11 [u32, i64] (res2 u32 i64)) n) a0).trans (congrArg (fun x => addr_Parse_e  x  a0) e0))
theorem ok_addr_Parse : SpecOK C_addr_Parse 11 sp_addr_Parse := by
  have hS := specs_ok (C := C_addr_Parse) (l := us_addr_Parse) rfl ⟨ok_addr_Text.re rfl rfl rfl, ok_strings_Split.re rfl rfl rfl, ok_strconv_Atoi.re rfl rfl rfl, trivial⟩
  refine spec_ok (C := C_addr_Parse) (cl := (clD C_addr_Parse 0)) (hd := (hdOf C_addr_Parse hd_addr_Parse)) envOK (tyOK_of (l := tab) rfl tabT) hS (clD_ok envOK (tyOK_of (l := tab) rfl tabT) hS mixed (inl_ok (l := []) rfl (by kernel_rfl)) _) mixed (hdOf_ok envOK hd_addr_Parse) (by kernel_rfl) [u32, i64] (res2 u32 i64) (de2 (S := S) u32 i64) fun cs r h => ?_
  obtain ⟨a0, rfl, h⟩ := inv1 h
  exact ⟨big, (ev_addr_Parse big a0).trans ((def_addr_Parse a0).symm.trans h)⟩
-- strings.Cut
end Go.Lv.Ld
namespace Go.Proofs
open Go.Shelf
def Tryd.lvstrings_Cut_ren : Go.Shelf.Ren := ⟨fun | 145 => 25 | 220 => 32 | 219 => 45 | 217 => 58 | 225 => 59 | 224 => 60 | 267 => 61 | 266 => 72 | 314 => 73 | n => n, fun | 9 => 9 | 4 => 4 | 59 => 58 | 3 => 3 | 5 => 5 | 46 => 44 | 146 => 108 | 51 => 22 | n => n, fun | 1 => 2 | n => n⟩
theorem Tryd.lvstrings_Cut : Go.Proofs.Lays.n145 Tryd.prog Tryd.lvstrings_Cut_ren := {
  mixed := by kernel_rfl
  f145 := Tryd.func25.trans (congrArg some (by kernel_rfl))
  f217 := Tryd.func58.trans (congrArg some (by kernel_rfl))
  f219 := Tryd.func45.trans (congrArg some (by kernel_rfl))
  f220 := Tryd.func32.trans (congrArg some (by kernel_rfl))
  f224 := Tryd.func60.trans (congrArg some (by kernel_rfl))
  f225 := Tryd.func59.trans (congrArg some (by kernel_rfl))
  f266 := Tryd.func72.trans (congrArg some (by kernel_rfl))
  f267 := Tryd.func61.trans (congrArg some (by kernel_rfl))
  f314 := Tryd.func73.trans (congrArg some (by kernel_rfl))
  t3 := Tryd.underlying3
  a3 := Tryd.isAgg3
  z3 := Tryd.sizeOf3
  v3 := Tryd.zeroValue3
  t4 := Tryd.underlying4
  a4 := Tryd.isAgg4
  z4 := Tryd.sizeOf4
  v4 := Tryd.zeroValue4
  t5 := Tryd.underlying5
  a5 := Tryd.isAgg5
  z5 := Tryd.sizeOf5
  v5 := Tryd.zeroValue5
  t9 := Tryd.underlying9
  a9 := Tryd.isAgg9
  z9 := Tryd.sizeOf9
  v9 := Tryd.zeroValue9
  t46 := Tryd.underlying44
  a46 := Tryd.isAgg44
  z46 := Tryd.sizeOf44
  v46 := Tryd.zeroValue44
  t51 := Tryd.underlying22
  a51 := Tryd.isAgg22
  z51 := Tryd.sizeOf22
  v51 := Tryd.zeroValue22
  t59 := Tryd.underlying58
  a59 := Tryd.isAgg58
  z59 := Tryd.sizeOf58
  v59 := Tryd.zeroValue58
  t146 := Tryd.underlying108
  a146 := Tryd.isAgg108
  z146 := Tryd.sizeOf108
  v146 := Tryd.zeroValue108
  g1 := by kernel_rfl }
end Go.Proofs
namespace Go.Lv.Ld
open Go Go.Lv Go.Proofs
set_option linter.all false
set_option maxRecDepth 100000
def sp_strings_Cut : Spec S := { args := [Ty.str, Ty.str], R := (List UInt8) × (List UInt8) × Bool, run := run2 Ty.str Ty.str strings_Cut, enc := enc3 (S := S) Ty.str Ty.str Ty.bool }
def spb_strings_Cut (F : (List UInt8) → (List UInt8) → Option ((List UInt8) × (List UInt8) × Bool)) : Spec S := { args := [Ty.str, Ty.str], R := (List UInt8) × (List UInt8) × Bool, run := run2 Ty.str Ty.str F, enc := enc3 (S := S) Ty.str Ty.str Ty.bool }
noncomputable def C_strings_Cut : Ctx S := { P := Tryd.prog, E := E, ty := tyL tab, G := glL gtab, spec := fun _ => none, inl := fun _ => false }
theorem ok_strings_Cut : SpecOK C_strings_Cut 25 sp_strings_Cut := ok_Cut (C := C_strings_Cut) (ρ := Tryd.lvstrings_Cut_ren) Tryd.lvstrings_Cut (lvEnters (by kernel_rfl))
-- lodger/addr.ParseBlock
def addr_ParseBlock_b (g_addr_BlockText : Block → Option ((List UInt8) × Int)) (g_addr_Parse : (List UInt8) → Option (Int × Int)) (g_strconv_Atoi : (List UInt8) → Option (Int × Bool)) (g_strings_Cut : (List UInt8) → (List UInt8) → Option ((List UInt8) × (List UInt8) × Bool)) (a0 : (List UInt8)) : Option (Block × Int) := ((g_strings_Cut a0 ([47] : List UInt8)).bind fun r1 => ((g_addr_Parse r1.1).bind fun r2 => ((g_strconv_Atoi r1.2.1).bind fun r3 => ((g_addr_BlockText (⟨r2.1, r3.1⟩ : Block)).bind fun r4 => (bif (r2.2 != 0) then some ((⟨0, 0⟩ : Block), 2) else (bif r3.2 then some ((⟨0, 0⟩ : Block), 2) else (bif (r4.2 != 0) then some ((⟨0, 0⟩ : Block), 2) else (bif (!(r4.1 == a0)) then some ((⟨0, 0⟩ : Block), 2) else some ((⟨r2.1, r3.1⟩ : Block), 0)))))))))
def sp_addr_ParseBlock : Spec S := { args := [Ty.str], R := Block × Int, run := run1 Ty.str addr_ParseBlock, enc := enc2 (S := S) (Ty.st 0) i64 }
def spb_addr_ParseBlock (F : (List UInt8) → Option (Block × Int)) : Spec S := { args := [Ty.str], R := Block × Int, run := run1 Ty.str F, enc := enc2 (S := S) (Ty.st 0) i64 }
def usb_addr_ParseBlock (g_addr_BlockText : Block → Option ((List UInt8) × Int)) (g_addr_Parse : (List UInt8) → Option (Int × Int)) (g_strconv_Atoi : (List UInt8) → Option (Int × Bool)) (g_strings_Cut : (List UInt8) → (List UInt8) → Option ((List UInt8) × (List UInt8) × Bool)) : List (Nat × Spec S) := [(9, spb_addr_BlockText g_addr_BlockText), (11, spb_addr_Parse g_addr_Parse), (23, spb_strconv_Atoi g_strconv_Atoi), (25, spb_strings_Cut g_strings_Cut)]
def us_addr_ParseBlock : List (Nat × Spec S) := [(9, sp_addr_BlockText), (11, sp_addr_Parse), (23, sp_strconv_Atoi), (25, sp_strings_Cut)]
noncomputable def Cb_addr_ParseBlock (g_addr_BlockText : Block → Option ((List UInt8) × Int)) (g_addr_Parse : (List UInt8) → Option (Int × Int)) (g_strconv_Atoi : (List UInt8) → Option (Int × Bool)) (g_strings_Cut : (List UInt8) → (List UInt8) → Option ((List UInt8) × (List UInt8) × Bool)) : Ctx S := { P := Tryd.prog, E := E, ty := tyL tab, G := glL gtab, spec := spL (usb_addr_ParseBlock g_addr_BlockText g_addr_Parse g_strconv_Atoi g_strings_Cut), inl := inL [] }
noncomputable def C_addr_ParseBlock : Ctx S := Cb_addr_ParseBlock addr_BlockText addr_Parse strconv_Atoi strings_Cut
theorem evb_addr_ParseBlock (g_addr_BlockText : Block → Option ((List UInt8) × Int)) (g_addr_Parse : (List UInt8) → Option (Int × Int)) (g_strconv_Atoi : (List UInt8) → Option (Int × Bool)) (g_strings_Cut : (List UInt8) → (List UInt8) → Option ((List UInt8) × (List UInt8) × Bool)) (L : (St S → D (Block × Int)) → Lp S (Block × Int)) (a0 : (List UInt8)) : (runWF (Cb_addr_ParseBlock g_addr_BlockText g_addr_Parse g_strconv_Atoi g_strings_Cut) (clDF (Cb_addr_ParseBlock g_addr_BlockText g_addr_Parse g_strconv_Atoi g_strings_Cut) 0) L 13 [(Ty.st 0), i64] (res2 (Ty.st 0) i64) [encV E Ty.str a0]).opt = addr_ParseBlock_b g_addr_BlockText g_addr_Parse g_strconv_Atoi g_strings_Cut a0 := by kernel_rfl
theorem ev_addr_ParseBlock (L : (St S → D (Block × Int)) → Lp S (Block × Int)) (a0 : (List UInt8)) : (runW C_addr_ParseBlock (clD C_addr_ParseBlock 0) L 13 [(Ty.st 0), i64] (res2 (Ty.st 0) i64) [encV E Ty.str a0]).opt = addr_ParseBlock a0 := (congrArg D.opt (runWF_eq _ _ L _ _ _ _)).trans (evb_addr_ParseBlock addr_BlockText addr_Parse strconv_Atoi strings_Cut L a0)
theorem ok_addr_ParseBlock : SpecOK C_addr_ParseBlock 13 sp_addr_ParseBlock := by
  have hS := specs_ok (C := C_addr_ParseBlock) (l := us_addr_ParseBlock) rfl ⟨ok_addr_BlockText.re rfl rfl rfl, ok_addr_Parse.re rfl rfl rfl, ok_strconv_Atoi.re rfl rfl rfl, ok_strings_Cut.re rfl rfl rfl, trivial⟩
  refine spec_ok (C := C_addr_ParseBlock) (cl := (clD C_addr_ParseBlock 0)) (hd := (fun _ s => some s)) envOK (tyOK_of (l := tab) rfl tabT) hS (clD_ok envOK (tyOK_of (l := tab) rfl tabT) hS mixed (inl_ok (l := []) rfl (by kernel_rfl)) _) mixed HdOK.id (by kernel_rfl) [(Ty.st 0), i64] (res2 (Ty.st 0) i64) (de2 (S := S) (Ty.st 0) i64) fun cs r h => ?_
  obtain ⟨a0, rfl, h⟩ := inv1 h
  exact ⟨0, (ev_addr_ParseBlock _ a0).trans h⟩
-- lodger/lodgerref04.dec
def sp_lodgerref04_dec : Spec S := { args := [i64], R := (List UInt8), run := run1 i64 lodgerref04_dec, enc := enc1 (S := S) Ty.str }
def spb_lodgerref04_dec (F : Int → Option ((List UInt8))) : Spec S := { args := [i64], R := (List UInt8), run := run1 i64 F, enc := enc1 (S := S) Ty.str }
def usb_lodgerref04_dec (g_lodgerref04_dec : Int → Option ((List UInt8))) : List (Nat × Spec S) := [(21, spb_lodgerref04_dec g_lodgerref04_dec)]
noncomputable def Cb_lodgerref04_dec (g_lodgerref04_dec : Int → Option ((List UInt8))) : Ctx S := { P := Tryd.prog, E := E, ty := tyL tab, G := glL gtab, spec := spL (usb_lodgerref04_dec g_lodgerref04_dec), inl := inL [] }
noncomputable def C_lodgerref04_dec : Ctx S := Cb_lodgerref04_dec lodgerref04_dec
theorem evb_lodgerref04_dec (g_lodgerref04_dec : Int → Option ((List UInt8))) (L : (St S → D ((List UInt8))) → Lp S ((List UInt8))) (a0 : Int) : (runWF (Cb_lodgerref04_dec g_lodgerref04_dec) (clDF (Cb_lodgerref04_dec g_lodgerref04_dec) 0) L 21 [Ty.str] (res1 Ty.str) [encV E i64 a0]).opt = lodgerref04_dec_b g_lodgerref04_dec a0 := by kernel_rfl
theorem okb_lodgerref04_dec (g_lodgerref04_dec : Int → Option ((List UInt8))) (h : SpecOK (Cb_lodgerref04_dec g_lodgerref04_dec) 21 (spb_lodgerref04_dec g_lodgerref04_dec)) : SpecOK (Cb_lodgerref04_dec g_lodgerref04_dec) 21 (spb_lodgerref04_dec (lodgerref04_dec_b g_lodgerref04_dec)) := by
  have hS := specs_ok (C := (Cb_lodgerref04_dec g_lodgerref04_dec)) (l := usb_lodgerref04_dec g_lodgerref04_dec) rfl ⟨h, trivial⟩
  refine spec_ok (C := (Cb_lodgerref04_dec g_lodgerref04_dec)) (cl := (clD (Cb_lodgerref04_dec g_lodgerref04_dec) 0)) (hd := (fun _ s => some s)) envOK (tyOK_of (l := tab) rfl tabT) hS (clD_ok envOK (tyOK_of (l := tab) rfl tabT) hS mixed (inl_ok (l := []) rfl (by kernel_rfl)) _) mixed HdOK.id (by kernel_rfl) [Ty.str] (res1 Ty.str) (de1 (S := S) Ty.str) fun cs r h => ?_
  obtain ⟨a0, rfl, h⟩ := inv1 h
  exact ⟨0, ((congrArg D.opt (runWF_eq _ _ _ _ _ _ _)).trans (evb_lodgerref04_dec g_lodgerref04_dec _ a0)).trans h⟩
theorem okr_lodgerref04_dec : ∀ n, SpecOK (Cb_lodgerref04_dec (lodgerref04_dec_r n)) 21 (spb_lodgerref04_dec (lodgerref04_dec_r n))
  | 0 => ⟨lvEnters (by kernel_rfl), fun _ _ _ _ _ _ _ _ h => by obtain ⟨_, _, h⟩ := inv1 h; cases h⟩
  | n + 1 => (okb_lodgerref04_dec (lodgerref04_dec_r n) (okr_lodgerref04_dec n)).re rfl rfl rfl
theorem ok_lodgerref04_dec : SpecOK C_lodgerref04_dec 21 sp_lodgerref04_dec := (okr_lodgerref04_dec big).re rfl rfl rfl
-- lodger/lodgerref04.Text
def lodgerref04_Text_b (g_lodgerref04_dec : Int → Option ((List UInt8))) (a0 : Int) : Option ((List UInt8)) := ((g_lodgerref04_dec (IntKind.wrap .i64 (IntKind.wrap .u32 (Int.tdiv a0 16777216)))).bind fun r1 => (bif (decide (r1.length + ([46] : List UInt8).length ≤ 1152921504606846976)) then ((g_lodgerref04_dec (IntKind.wrap .i64 (Int.tmod (IntKind.wrap .u32 (Int.tdiv a0 65536)) 256))).bind fun r2 => (bif (decide ((r1 ++ ([46] : List UInt8)).length + r2.length ≤ 1152921504606846976)) then (bif (decide (((r1 ++ ([46] : List UInt8)) ++ r2).length + ([46] : List UInt8).length ≤ 1152921504606846976)) then ((g_lodgerref04_dec (IntKind.wrap .i64 (Int.tmod (IntKind.wrap .u32 (Int.tdiv a0 256)) 256))).bind fun r3 => (bif (decide ((((r1 ++ ([46] : List UInt8)) ++ r2) ++ ([46] : List UInt8)).length + r3.length ≤ 1152921504606846976)) then (bif (decide (((((r1 ++ ([46] : List UInt8)) ++ r2) ++ ([46] : List UInt8)) ++ r3).length + ([46] : List UInt8).length ≤ 1152921504606846976)) then ((g_lodgerref04_dec (IntKind.wrap .i64 (Int.tmod a0 256))).bind fun r4 => (bif (decide ((((((r1 ++ ([46] : List UInt8)) ++ r2) ++ ([46] : List UInt8)) ++ r3) ++ ([46] : List UInt8)).length + r4.length ≤ 1152921504606846976)) then some ((((((r1 ++ ([46] : List UInt8)) ++ r2) ++ ([46] : List UInt8)) ++ r3) ++ ([46] : List UInt8)) ++ r4) else none)) else none) else none)) else none) else none)) else none))
def sp_lodgerref04_Text : Spec S := { args := [u32], R := (List UInt8), run := run1 u32 lodgerref04_Text, enc := enc1 (S := S) Ty.str }
def spb_lodgerref04_Text (F : Int → Option ((List UInt8))) : Spec S := { args := [u32], R := (List UInt8), run := run1 u32 F, enc := enc1 (S := S) Ty.str }
def usb_lodgerref04_Text (g_lodgerref04_dec : Int → Option ((List UInt8))) : List (Nat × Spec S) := [(21, spb_lodgerref04_dec g_lodgerref04_dec)]
def us_lodgerref04_Text : List (Nat × Spec S) := [(21, sp_lodgerref04_dec)]
noncomputable def Cb_lodgerref04_Text (g_lodgerref04_dec : Int → Option ((List UInt8))) : Ctx S := { P := Tryd.prog, E := E, ty := tyL tab, G := glL gtab, spec := spL (usb_lodgerref04_Text g_lodgerref04_dec), inl := inL [] }
noncomputable def C_lodgerref04_Text : Ctx S := Cb_lodgerref04_Text lodgerref04_dec
theorem evb_lodgerref04_Text (g_lodgerref04_dec : Int → Option ((List UInt8))) (L : (St S → D ((List UInt8))) → Lp S ((List UInt8))) (a0 : Int) : (runWF (Cb_lodgerref04_Text g_lodgerref04_dec) (clDF (Cb_lodgerref04_Text g_lodgerref04_dec) 0) L 16 [Ty.str] (res1 Ty.str) [encV E u32 a0]).opt = lodgerref04_Text_b g_lodgerref04_dec a0 := by kernel_rfl
theorem ev_lodgerref04_Text (L : (St S → D ((List UInt8))) → Lp S ((List UInt8))) (a0 : Int) : (runW C_lodgerref04_Text (clD C_lodgerref04_Text 0) L 16 [Ty.str] (res1 Ty.str) [encV E u32 a0]).opt = lodgerref04_Text a0 := (congrArg D.opt (runWF_eq _ _ L _ _ _ _)).trans (evb_lodgerref04_Text lodgerref04_dec L a0)
theorem ok_lodgerref04_Text : SpecOK C_lodgerref04_Text 16 sp_lodgerref04_Text := by
  have hS := specs_ok (C := C_lodgerref04_Text) (l := us_lodgerref04_Text) rfl ⟨ok_lodgerref04_dec.re rfl rfl rfl, trivial⟩
  refine spec_ok (C := C_lodgerref04_Text) (cl := (clD C_lodgerref04_Text 0)) (hd := (fun _ s => some s)) envOK (tyOK_of (l := tab) rfl tabT) hS (clD_ok envOK (tyOK_of (l := tab) rfl tabT) hS mixed (inl_ok (l := []) rfl (by kernel_rfl)) _) mixed HdOK.id (by kernel_rfl) [Ty.str] (res1 Ty.str) (de1 (S := S) Ty.str) fun cs r h => ?_
  obtain ⟨a0, rfl, h⟩ := inv1 h
  exact ⟨0, (ev_lodgerref04_Text _ a0).trans h⟩
-- lodger/lodgerref04.Many
def lodgerref04_Many_s0b  (k0 : Int → Int → Option (Int)) (s3 : Int) (s4 : Int) : Option (Int) := (bif (decide (s4 < 32)) then k0 (IntKind.wrap .i64 (2 * s3)) (IntKind.wrap .i64 (s4 + 1)) else some s3)
def lodgerref04_Many_eb  (k0 : Int → Int → Option (Int)) (a0 : Int) : Option (Int) := k0 1 a0
def sp_lodgerref04_Many : Spec S := { args := [i64], R := Int, run := run1 i64 lodgerref04_Many, enc := enc1 (S := S) i64 }
def spb_lodgerref04_Many (F : Int → Option (Int)) : Spec S := { args := [i64], R := Int, run := run1 i64 F, enc := enc1 (S := S) i64 }
def usb_lodgerref04_Many  : List (Nat × Spec S) := []
def us_lodgerref04_Many : List (Nat × Spec S) := []
noncomputable def Cb_lodgerref04_Many  : Ctx S := { P := Tryd.prog, E := E, ty := tyL tab, G := glL gtab, spec := spL (usb_lodgerref04_Many ), inl := inL [] }
noncomputable def C_lodgerref04_Many : Ctx S := Cb_lodgerref04_Many 
def hd_lodgerref04_Many : List ((Nat × Nat) × List Hs) := [((2, 3), [.canon 0 [] [3, 4], .plain 3 i64, .plain 4 i64])]
def h0_lodgerref04_Many (s3 : Int) (s4 : Int) : St S := { tmps := [.undef, .undef, .undef, .cell i64 s3, .cell i64 s4, .undef, .undef, .undef, .undef, .undef, .undef, .undef, .undef], mem := [] }
theorem rdb0_lodgerref04_Many  (L : Lp S (Int)) (s3 : Int) (s4 : Int) : (roundWF (Cb_lodgerref04_Many ) (clDF (Cb_lodgerref04_Many ) 0) (hdOf (Cb_lodgerref04_Many ) hd_lodgerref04_Many) 27 0 [i64] (res1 i64) L (h0_lodgerref04_Many s3 s4)).opt = lodgerref04_Many_s0b  (fun s3 s4 => (L (todoOf (Cb_lodgerref04_Many ) 27 0) (h0_lodgerref04_Many s3 s4)).opt) s3 s4 := by kernel_rfl
theorem rd0_lodgerref04_Many (L : Lp S (Int)) (s3 : Int) (s4 : Int) : (roundW C_lodgerref04_Many (clD C_lodgerref04_Many 0) (hdOf C_lodgerref04_Many hd_lodgerref04_Many) 27 0 [i64] (res1 i64) L (h0_lodgerref04_Many s3 s4)).opt = lodgerref04_Many_s0 (fun s3 s4 => (L (todoOf C_lodgerref04_Many 27 0) (h0_lodgerref04_Many s3 s4)).opt) s3 s4 := (congrArg D.opt (roundWF_eq _ _ _ _ _ _ _ L _)).trans (rdb0_lodgerref04_Many  L s3 s4)
theorem enb_lodgerref04_Many  (L : Lp S (Int)) (a0 : Int) : (runWF (Cb_lodgerref04_Many ) (clDF (Cb_lodgerref04_Many ) 0) (fun _ => canonL (hdOf (Cb_lodgerref04_Many ) hd_lodgerref04_Many) L) 27 [i64] (res1 i64) [encV E i64 a0]).opt = lodgerref04_Many_eb  (fun s3 s4 => (L (todoOf (Cb_lodgerref04_Many ) 27 0) (h0_lodgerref04_Many s3 s4)).opt) a0 := by kernel_rfl
theorem en_lodgerref04_Many (L : Lp S (Int)) (a0 : Int) : (runW C_lodgerref04_Many (clD C_lodgerref04_Many 0) (fun _ => canonL (hdOf C_lodgerref04_Many hd_lodgerref04_Many) L) 27 [i64] (res1 i64) [encV E i64 a0]).opt = lodgerref04_Many_e (fun s3 s4 => (L (todoOf C_lodgerref04_Many 27 0) (h0_lodgerref04_Many s3 s4)).opt) a0 := (congrArg D.opt (runWF_eq _ _ _ _ _ _ _)).trans (enb_lodgerref04_Many  L a0)
theorem fx_lodgerref04_Many : ∀ n, (∀ (s3 : Int) (s4 : Int), (Lfix C_lodgerref04_Many (clD C_lodgerref04_Many 0) (hdOf C_lodgerref04_Many hd_lodgerref04_Many) (finW C_lodgerref04_Many 27 [i64] (res1 i64)) n (todoOf C_lodgerref04_Many 27 0) (h0_lodgerref04_Many s3 s4)).opt = lodgerref04_Many_l0 n s3 s4)
  | 0 => fun _ _ => rfl
  | n + 1 => by
    have ih := fx_lodgerref04_Many n
    have e0 : (fun s3 s4 => (Lfix C_lodgerref04_Many (clD C_lodgerref04_Many 0) (hdOf C_lodgerref04_Many hd_lodgerref04_Many) (finW C_lodgerref04_Many 27 [i64] (res1 i64)) n (todoOf C_lodgerref04_Many 27 0) (h0_lodgerref04_Many s3 s4)).opt) = lodgerref04_Many_l0 n := funext fun s3 => funext fun s4 => ih s3 s4
    exact fun s3 s4 => (congrArg D.opt (Lfix_round C_lodgerref04_Many (clD C_lodgerref04_Many 0) (hdOf C_lodgerref04_Many hd_lodgerref04_Many) 27 0 [i64] (res1 i64) n _)).trans ((rd0_lodgerref04_Many (Lfix C_lodgerref04_Many (clD C_lodgerref04_Many 0) (hdOf C_lodgerref04_Many hd_lodgerref04_Many) (finW C_lodgerref04_Many 27 [i64] (res1 i64)) n) s3 s4).trans (congrArg (fun x => lodgerref04_Many_s0  x  s3 s4) e0))
theorem ev_lodgerref04_Many (n : Nat) (a0 : Int) : (runF C_lodgerref04_Many (clD C_lodgerref04_Many 0) (hdOf C_lodgerref04_Many hd_lodgerref04_Many) 27 [i64] (res1 i64) n [encV E i64 a0]).opt = lodgerref04_Many_n n a0 := by
  have ih := fx_lodgerref04_Many n
  have e0 : (fun s3 s4 => (Lfix C_lodgerref04_Many (clD C_lodgerref04_Many 0) (hdOf C_lodgerref04_Many hd_lodgerref04_Many) (finW C_lodgerref04_Many 27 [i64] (res1 i64)) n (todoOf C_lodgerref04_Many 27 0) (h0_lodgerref04_Many s3 s4)).opt) = lodgerref04_Many_l0 n := funext fun s3 => funext fun s4 => ih s3 s4
  exact (congrArg D.opt (runF_eq C_lodgerref04_Many (clD C_lodgerref04_Many 0) (hdOf C_lodgerref04_Many hd_lodgerref04_Many) 27 [i64] (res1 i64) n _)).trans ((en_lodgerref04_Many (Lfix C_lodgerref04_Many (clD C_lodgerref04_Many 0) (hdOf C_lodgerref04_Many hd_lodgerref04_Many) (finW C_lodgerref04_Many 27 [i64] (res1 i64)) n) a0).trans (congrArg (fun x => lodgerref04_Many_e  x  a0) e0))
theorem ok_lodgerref04_Many : SpecOK C_lodgerref04_Many 27 sp_lodgerref04_Many := by
  have hS := specs_ok (C := C_lodgerref04_Many) (l := us_lodgerref04_Many) rfl trivial
  refine spec_ok (C := C_lodgerref04_Many) (cl := (clD C_lodgerref04_Many 0)) (hd := (hdOf C_lodgerref04_Many hd_lodgerref04_Many)) envOK (tyOK_of (l := tab) rfl tabT) hS (clD_ok envOK (tyOK_of (l := tab) rfl tabT) hS mixed (inl_ok (l := []) rfl (by kernel_rfl)) _) mixed (hdOf_ok envOK hd_lodgerref04_Many) (by kernel_rfl) [i64] (res1 i64) (de1 (S := S) i64) fun cs r h => ?_
  obtain ⟨a0, rfl, h⟩ := inv1 h
  exact ⟨big, (ev_lodgerref04_Many big a0).trans ((def_lodgerref04_Many a0).symm.trans h)⟩
-- lodger/lodgerref04.May
def lodgerref04_May_b (g_lodgerref04_Many : Int → Option (Int)) (a0 : Block) : Option (Bool) := (bif (decide (a0.pre ≥ 16)) then (bif (decide (a0.pre ≤ 32)) then ((g_lodgerref04_Many a0.pre).bind fun r1 => (bif (r1 == 0) then none else some ((Int.tmod (IntKind.wrap .i64 a0.base) r1) == 0))) else some false) else some false)
def sp_lodgerref04_May : Spec S := { args := [(Ty.st 0)], R := Bool, run := run1 (Ty.st 0) lodgerref04_May, enc := enc1 (S := S) Ty.bool }
def spb_lodgerref04_May (F : Block → Option (Bool)) : Spec S := { args := [(Ty.st 0)], R := Bool, run := run1 (Ty.st 0) F, enc := enc1 (S := S) Ty.bool }
def usb_lodgerref04_May (g_lodgerref04_Many : Int → Option (Int)) : List (Nat × Spec S) := [(27, spb_lodgerref04_Many g_lodgerref04_Many)]
def us_lodgerref04_May : List (Nat × Spec S) := [(27, sp_lodgerref04_Many)]
noncomputable def Cb_lodgerref04_May (g_lodgerref04_Many : Int → Option (Int)) : Ctx S := { P := Tryd.prog, E := E, ty := tyL tab, G := glL gtab, spec := spL (usb_lodgerref04_May g_lodgerref04_Many), inl := inL [] }
noncomputable def C_lodgerref04_May : Ctx S := Cb_lodgerref04_May lodgerref04_Many
theorem evb_lodgerref04_May (g_lodgerref04_Many : Int → Option (Int)) (L : (St S → D (Bool)) → Lp S (Bool)) (a0 : Block) : (runWF (Cb_lodgerref04_May g_lodgerref04_Many) (clDF (Cb_lodgerref04_May g_lodgerref04_Many) 0) L 18 [Ty.bool] (res1 Ty.bool) [encV E (Ty.st 0) a0]).opt = lodgerref04_May_b g_lodgerref04_Many a0 := by kernel_rfl
theorem ev_lodgerref04_May (L : (St S → D (Bool)) → Lp S (Bool)) (a0 : Block) : (runW C_lodgerref04_May (clD C_lodgerref04_May 0) L 18 [Ty.bool] (res1 Ty.bool) [encV E (Ty.st 0) a0]).opt = lodgerref04_May a0 := (congrArg D.opt (runWF_eq _ _ L _ _ _ _)).trans (evb_lodgerref04_May lodgerref04_Many L a0)
theorem ok_lodgerref04_May : SpecOK C_lodgerref04_May 18 sp_lodgerref04_May := by
  have hS := specs_ok (C := C_lodgerref04_May) (l := us_lodgerref04_May) rfl ⟨ok_lodgerref04_Many.re rfl rfl rfl, trivial⟩
  refine spec_ok (C := C_lodgerref04_May) (cl := (clD C_lodgerref04_May 0)) (hd := (fun _ s => some s)) envOK (tyOK_of (l := tab) rfl tabT) hS (clD_ok envOK (tyOK_of (l := tab) rfl tabT) hS mixed (inl_ok (l := []) rfl (by kernel_rfl)) _) mixed HdOK.id (by kernel_rfl) [Ty.bool] (res1 Ty.bool) (de1 (S := S) Ty.bool) fun cs r h => ?_
  obtain ⟨a0, rfl, h⟩ := inv1 h
  exact ⟨0, (ev_lodgerref04_May _ a0).trans h⟩
-- lodger/lodgerref04.BlockText
def lodgerref04_BlockText_b (g_lodgerref04_Text : Int → Option ((List UInt8))) (g_lodgerref04_May : Block → Option (Bool)) (g_lodgerref04_dec : Int → Option ((List UInt8))) (a0 : Block) : Option ((List UInt8) × Int) := ((g_lodgerref04_May a0).bind fun r1 => (bif (not r1) then some (([] : List UInt8), 2) else ((g_lodgerref04_Text a0.base).bind fun r2 => (bif (decide (r2.length + ([47] : List UInt8).length ≤ 1152921504606846976)) then ((g_lodgerref04_dec a0.pre).bind fun r3 => (bif (decide ((r2 ++ ([47] : List UInt8)).length + r3.length ≤ 1152921504606846976)) then some (((r2 ++ ([47] : List UInt8)) ++ r3), 0) else none)) else none))))
def sp_lodgerref04_BlockText : Spec S := { args := [(Ty.st 0)], R := (List UInt8) × Int, run := run1 (Ty.st 0) lodgerref04_BlockText, enc := enc2 (S := S) Ty.str i64 }
def spb_lodgerref04_BlockText (F : Block → Option ((List UInt8) × Int)) : Spec S := { args := [(Ty.st 0)], R := (List UInt8) × Int, run := run1 (Ty.st 0) F, enc := enc2 (S := S) Ty.str i64 }
def usb_lodgerref04_BlockText (g_lodgerref04_Text : Int → Option ((List UInt8))) (g_lodgerref04_May : Block → Option (Bool)) (g_lodgerref04_dec : Int → Option ((List UInt8))) : List (Nat × Spec S) := [(16, spb_lodgerref04_Text g_lodgerref04_Text), (18, spb_lodgerref04_May g_lodgerref04_May), (21, spb_lodgerref04_dec g_lodgerref04_dec)]
def us_lodgerref04_BlockText : List (Nat × Spec S) := [(16, sp_lodgerref04_Text), (18, sp_lodgerref04_May), (21, sp_lodgerref04_dec)]
noncomputable def Cb_lodgerref04_BlockText (g_lodgerref04_Text : Int → Option ((List UInt8))) (g_lodgerref04_May : Block → Option (Bool)) (g_lodgerref04_dec : Int → Option ((List UInt8))) : Ctx S := { P := Tryd.prog, E := E, ty := tyL tab, G := glL gtab, spec := spL (usb_lodgerref04_BlockText g_lodgerref04_Text g_lodgerref04_May g_lodgerref04_dec), inl := inL [] }
noncomputable def C_lodgerref04_BlockText : Ctx S := Cb_lodgerref04_BlockText lodgerref04_Text lodgerref04_May lodgerref04_dec
theorem evb_lodgerref04_BlockText (g_lodgerref04_Text : Int → Option ((List UInt8))) (g_lodgerref04_May : Block → Option (Bool)) (g_lodgerref04_dec : Int → Option ((List UInt8))) (L : (St S → D ((List UInt8) × Int)) → Lp S ((List UInt8) × Int)) (a0 : Block) : (runWF (Cb_lodgerref04_BlockText g_lodgerref04_Text g_lodgerref04_May g_lodgerref04_dec) (clDF (Cb_lodgerref04_BlockText g_lodgerref04_Text g_lodgerref04_May g_lodgerref04_dec) 0) L 10 [Ty.str, i64] (res2 Ty.str i64) [encV E (Ty.st 0) a0]).opt = lodgerref04_BlockText_b g_lodgerref04_Text g_lodgerref04_May g_lodgerref04_dec a0 := by kernel_rfl
theorem ev_lodgerref04_BlockText (L : (St S → D ((List UInt8) × Int)) → Lp S ((List UInt8) × Int)) (a0 : Block) : (runW C_lodgerref04_BlockText (clD C_lodgerref04_BlockText 0) L 10 [Ty.str, i64] (res2 Ty.str i64) [encV E (Ty.st 0) a0]).opt = lodgerref04_BlockText a0 := (congrArg D.opt (runWF_eq _ _ L _ _ _ _)).trans (evb_lodgerref04_BlockText lodgerref04_Text lodgerref04_May lodgerref04_dec L a0)
theorem ok_lodgerref04_BlockText : SpecOK C_lodgerref04_BlockText 10 sp_lodgerref04_BlockText := by
  have hS := specs_ok (C := C_lodgerref04_BlockText) (l := us_lodgerref04_BlockText) rfl ⟨ok_lodgerref04_Text.re rfl rfl rfl, ok_lodgerref04_May.re rfl rfl rfl, ok_lodgerref04_dec.re rfl rfl rfl, trivial⟩
  refine spec_ok (C := C_lodgerref04_BlockText) (cl := (clD C_lodgerref04_BlockText 0)) (hd := (fun _ s => some s)) envOK (tyOK_of (l := tab) rfl tabT) hS (clD_ok envOK (tyOK_of (l := tab) rfl tabT) hS mixed (inl_ok (l := []) rfl (by kernel_rfl)) _) mixed HdOK.id (by kernel_rfl) [Ty.str, i64] (res2 Ty.str i64) (de2 (S := S) Ty.str i64) fun cs r h => ?_
  obtain ⟨a0, rfl, h⟩ := inv1 h
  exact ⟨0, (ev_lodgerref04_BlockText _ a0).trans h⟩
-- lodger/lodgerref04.numbers
def lodgerref04_numbers_s0b  (k0 : (List UInt8) → Int → (List Int) → Option ((List Int))) (s0 : (List UInt8)) (s4 : Int) (m0 : (List Int)) : Option ((List Int)) := (bif (decide (s4 < (List.length s0 : Int))) then ((geti s0 s4).bind fun b1 => (bif (decide ((b1.toNat : Int) ≥ 48)) then ((geti s0 s4).bind fun b2 => (bif (decide ((b2.toNat : Int) ≤ 57)) then (bif (decide (0 ≤ (IntKind.wrap .i64 ((List.length m0 : Int) - 1)) ∧ (IntKind.wrap .i64 ((List.length m0 : Int) - 1)) < (m0.length : Int))) then ((m0[(IntKind.wrap .i64 ((List.length m0 : Int) - 1)).toNat]?).bind fun x3 => ((geti s0 s4).bind fun b4 => (bif (decide (0 ≤ (IntKind.wrap .i64 ((List.length m0 : Int) - 1)) ∧ (IntKind.wrap .i64 ((List.length m0 : Int) - 1)) < (m0.length : Int))) then ((m0[(IntKind.wrap .i64 ((List.length m0 : Int) - 1)).toNat]?).bind fun x5 => k0 s0 (IntKind.wrap .i64 (s4 + 1)) (m0.set ((IntKind.wrap .i64 ((List.length m0 : Int) - 1)).toNat) (mm false (IntKind.wrap .i64 ((IntKind.wrap .i64 ((IntKind.wrap .i64 (10 * x3)) + (IntKind.wrap .i64 (b4.toNat : Int)))) - 48)) 100000))) else none))) else none) else (bif (decide (m0.length + ([0] : List Int).length ≤ maxList)) then k0 s0 (IntKind.wrap .i64 (s4 + 1)) (m0 ++ ([0] : List Int)) else none))) else (bif (decide (m0.length + ([0] : List Int).length ≤ maxList)) then k0 s0 (IntKind.wrap .i64 (s4 + 1)) (m0 ++ ([0] : List Int)) else none))) else some m0)
def lodgerref04_numbers_eb  (k0 : (List UInt8) → Int → (List Int) → Option ((List Int))) (a0 : (List UInt8)) : Option ((List Int)) := k0 a0 0 ([0] : List Int)
def sp_lodgerref04_numbers : Spec S := { args := [Ty.str], R := (List Int), run := run1 Ty.str lodgerref04_numbers, enc := enc1 (S := S) (Ty.slice i64) }
def spb_lodgerref04_numbers (F : (List UInt8) → Option ((List Int))) : Spec S := { args := [Ty.str], R := (List Int), run := run1 Ty.str F, enc := enc1 (S := S) (Ty.slice i64) }
def usb_lodgerref04_numbers  : List (Nat × Spec S) := []
def us_lodgerref04_numbers : List (Nat × Spec S) := []
noncomputable def Cb_lodgerref04_numbers  : Ctx S := { P := Tryd.prog, E := E, ty := tyL tab, G := glL gtab, spec := spL (usb_lodgerref04_numbers ), inl := inL [], own := true }
noncomputable def C_lodgerref04_numbers : Ctx S := Cb_lodgerref04_numbers 
def hd_lodgerref04_numbers : List ((Nat × Nat) × List Hs) := [((2, 3), [.canon 1 [0] [0, 3, 4], .plain 0 Ty.str, .plain 4 i64])]
def h0_lodgerref04_numbers (s0 : (List UInt8)) (s4 : Int) (m0 : (List Int)) : St S := { tmps := [.cell Ty.str s0, .undef, .undef, .own 0 0, .cell i64 s4, .undef, .undef, .undef, .undef, .undef, .undef, .undef, .undef, .undef, .undef, .undef, .undef, .undef, .undef, .undef, .undef, .undef, .undef, .undef, .undef, .undef, .undef, .undef, .undef, .undef, .undef, .undef, .undef, .undef, .undef, .undef, .undef, .undef, .undef, .undef, .undef, .undef, .undef, .undef, .undef, .undef, .undef], mem := [.arr 3 i64 m0 0 false] }
theorem rdb0_lodgerref04_numbers  (L : Lp S ((List Int))) (s0 : (List UInt8)) (s4 : Int) (m0 : (List Int)) : (roundWF (Cb_lodgerref04_numbers ) (clDF (Cb_lodgerref04_numbers ) 0) (hdOf (Cb_lodgerref04_numbers ) hd_lodgerref04_numbers) 24 0 [(Ty.slice i64)] (res1 (Ty.slice i64)) L (h0_lodgerref04_numbers s0 s4 m0)).opt = lodgerref04_numbers_s0b  (fun s0 s4 m0 => (L (todoOf (Cb_lodgerref04_numbers ) 24 0) (h0_lodgerref04_numbers s0 s4 m0)).opt) s0 s4 m0 := by kernel_rfl
theorem rd0_lodgerref04_numbers (L : Lp S ((List Int))) (s0 : (List UInt8)) (s4 : Int) (m0 : (List Int)) : (roundW C_lodgerref04_numbers (clD C_lodgerref04_numbers 0) (hdOf C_lodgerref04_numbers hd_lodgerref04_numbers) 24 0 [(Ty.slice i64)] (res1 (Ty.slice i64)) L (h0_lodgerref04_numbers s0 s4 m0)).opt = lodgerref04_numbers_s0 (fun s0 s4 m0 => (L (todoOf C_lodgerref04_numbers 24 0) (h0_lodgerref04_numbers s0 s4 m0)).opt) s0 s4 m0 := (congrArg D.opt (roundWF_eq _ _ _ _ _ _ _ L _)).trans (rdb0_lodgerref04_numbers  L s0 s4 m0)
theorem enb_lodgerref04_numbers  (L : Lp S ((List Int))) (a0 : (List UInt8)) : (runWF (Cb_lodgerref04_numbers ) (clDF (Cb_lodgerref04_numbers ) 0) (fun _ => canonL (hdOf (Cb_lodgerref04_numbers ) hd_lodgerref04_numbers) L) 24 [(Ty.slice i64)] (res1 (Ty.slice i64)) [encV E Ty.str a0]).opt = lodgerref04_numbers_eb  (fun s0 s4 m0 => (L (todoOf (Cb_lodgerref04_numbers ) 24 0) (h0_lodgerref04_numbers s0 s4 m0)).opt) a0 := by kernel_rfl
theorem en_lodgerref04_numbers (L : Lp S ((List Int))) (a0 : (List UInt8)) : (runW C_lodgerref04_numbers (clD C_lodgerref04_numbers 0) (fun _ => canonL (hdOf C_lodgerref04_numbers hd_lodgerref04_numbers) L) 24 [(Ty.slice i64)] (res1 (Ty.slice i64)) [encV E Ty.str a0]).opt = lodgerref04_numbers_e (fun s0 s4 m0 => (L (todoOf C_lodgerref04_numbers 24 0) (h0_lodgerref04_numbers s0 s4 m0)).opt) a0 := (congrArg D.opt (runWF_eq _ _ _ _ _ _ _)).trans (enb_lodgerref04_numbers  L a0)
theorem fx_lodgerref04_numbers : ∀ n, (∀ (s0 : (List UInt8)) (s4 : Int) (m0 : (List Int)), (Lfix C_lodgerref04_numbers (clD C_lodgerref04_numbers 0) (hdOf C_lodgerref04_numbers hd_lodgerref04_numbers) (finW C_lodgerref04_numbers 24 [(Ty.slice i64)] (res1 (Ty.slice i64))) n (todoOf C_lodgerref04_numbers 24 0) (h0_lodgerref04_numbers s0 s4 m0)).opt = lodgerref04_numbers_l0 n s0 s4 m0)
  | 0 => fun _ _ _ => rfl
  | n + 1 => by
    have ih := fx_lodgerref04_numbers n
    have e0 : (fun s0 s4 m0 => (Lfix C_lodgerref04_numbers (clD C_lodgerref04_numbers 0) (hdOf C_lodgerref04_numbers hd_lodgerref04_numbers) (finW C_lodgerref04_numbers 24 [(Ty.slice i64)] (res1 (Ty.slice i64))) n (todoOf C_lodgerref04_numbers 24 0) (h0_lodgerref04_numbers s0 s4 m0)).opt) = lodgerref04_numbers_l0 n := funext fun s0 => funext fun s4 => funext fun m0 => ih s0 s4 m0
    exact fun s0 s4 m0 => (congrArg D.opt (Lfix_round C_lodgerref04_numbers (clD C_lodgerref04_numbers 0) (hdOf C_lodgerref04_numbers hd_lodgerref04_numbers) 24 0 [(Ty.slice i64)] (res1 (Ty.slice i64)) n _)).trans ((rd0_lodgerref04_numbers (Lfix C_lodgerref04_numbers (clD C_lodgerref04_numbers 0) (hdOf C_lodgerref04_numbers hd_lodgerref04_numbers) (finW C_lodgerref04_numbers 24 [(Ty.slice i64)] (res1 (Ty.slice i64))) n) s0 s4 m0).trans (congrArg (fun x => lodgerref04_numbers_s0  x  s0 s4 m0) e0))
theorem ev_lodgerref04_numbers (n : Nat) (a0 : (List UInt8)) : (runF C_lodgerref04_numbers (clD C_lodgerref04_numbers 0) (hdOf C_lodgerref04_numbers hd_lodgerref04_numbers) 24 [(Ty.slice i64)] (res1 (Ty.slice i64)) n [encV E Ty.str a0]).opt = lodgerref04_numbers_n n a0 := by
  have ih := fx_lodgerref04_numbers n
  have e0 : (fun s0 s4 m0 => (Lfix C_lodgerref04_numbers (clD C_lodgerref04_numbers 0) (hdOf C_lodgerref04_numbers hd_lodgerref04_numbers) (finW C_lodgerref04_numbers 24 [(Ty.slice i64)] (res1 (Ty.slice i64))) n (todoOf C_lodgerref04_numbers 24 0) (h0_lodgerref04_numbers s0 s4 m0)).opt) = lodgerref04_numbers_l0 n := funext fun s0 => funext fun s4 => funext fun m0 => ih s0 s4 m0
  exact (congrArg D.opt (runF_eq C_lodgerref04_numbers (clD C_lodgerref04_numbers 0) (hdOf C_lodgerref04_numbers hd_lodgerref04_numbers) 24 [(Ty.slice i64)] (res1 (Ty.slice i64)) n _)).trans ((en_lodgerref04_numbers (Lfix C_lodgerref04_numbers (clD C_lodgerref04_numbers 0) (hdOf C_lodgerref04_numbers hd_lodgerref04_numbers) (finW C_lodgerref04_numbers 24 [(Ty.slice i64)] (res1 (Ty.slice i64))) n) a0).trans (congrArg (fun x => lodgerref04_numbers_e  x  a0) e0))
theorem ok_lodgerref04_numbers : SpecOK C_lodgerref04_numbers 24 sp_lodgerref04_numbers := by
  have hS := specs_ok (C := C_lodgerref04_numbers) (l := us_lodgerref04_numbers) rfl trivial
  refine spec_ok (C := C_lodgerref04_numbers) (cl := (clD C_lodgerref04_numbers 0)) (hd := (hdOf C_lodgerref04_numbers hd_lodgerref04_numbers)) envOK (tyOK_of (l := tab) rfl tabT) hS (clD_ok envOK (tyOK_of (l := tab) rfl tabT) hS mixed (inl_ok (l := []) rfl (by kernel_rfl)) _) mixed (hdOf_ok envOK hd_lodgerref04_numbers) (by kernel_rfl) [(Ty.slice i64)] (res1 (Ty.slice i64)) (de1 (S := S) (Ty.slice i64)) fun cs r h => ?_
  obtain ⟨a0, rfl, h⟩ := inv1 h
  exact ⟨big, (ev_lodgerref04_numbers big a0).trans ((def_lodgerref04_numbers a0).symm.trans h)⟩
-- lodger/lodgerref04.Parse
def lodgerref04_Parse_b (g_lodgerref04_Text : Int → Option ((List UInt8))) (g_lodgerref04_numbers : (List UInt8) → Option ((List Int))) (a0 : (List UInt8)) : Option (Int × Int) := ((g_lodgerref04_numbers a0).bind fun r1 => (bif ((List.length r1 : Int) != 4) then some (0, 2) else ((geti r1 0).bind fun x2 => (bif (decide (x2 > 255)) then some (0, 2) else ((geti r1 1).bind fun x3 => (bif (decide (x3 > 255)) then some (0, 2) else ((geti r1 2).bind fun x4 => (bif (decide (x4 > 255)) then some (0, 2) else ((geti r1 3).bind fun x5 => (bif (decide (x5 > 255)) then some (0, 2) else ((geti r1 0).bind fun x6 => ((geti r1 1).bind fun x7 => ((geti r1 2).bind fun x8 => ((geti r1 3).bind fun x9 => ((g_lodgerref04_Text (IntKind.wrap .u32 ((IntKind.wrap .u32 ((IntKind.wrap .u32 ((IntKind.wrap .u32 ((IntKind.wrap .u32 x6) * 16777216)) + (IntKind.wrap .u32 ((IntKind.wrap .u32 x7) * 65536)))) + (IntKind.wrap .u32 ((IntKind.wrap .u32 x8) * 256)))) + (IntKind.wrap .u32 x9)))).bind fun r10 => (bif (!(r10 == a0)) then some (0, 2) else some ((IntKind.wrap .u32 ((IntKind.wrap .u32 ((IntKind.wrap .u32 ((IntKind.wrap .u32 ((IntKind.wrap .u32 x6) * 16777216)) + (IntKind.wrap .u32 ((IntKind.wrap .u32 x7) * 65536)))) + (IntKind.wrap .u32 ((IntKind.wrap .u32 x8) * 256)))) + (IntKind.wrap .u32 x9))), 0)))))))))))))))))
def sp_lodgerref04_Parse : Spec S := { args := [Ty.str], R := Int × Int, run := run1 Ty.str lodgerref04_Parse, enc := enc2 (S := S) u32 i64 }
def spb_lodgerref04_Parse (F : (List UInt8) → Option (Int × Int)) : Spec S := { args := [Ty.str], R := Int × Int, run := run1 Ty.str F, enc := enc2 (S := S) u32 i64 }
def usb_lodgerref04_Parse (g_lodgerref04_Text : Int → Option ((List UInt8))) (g_lodgerref04_numbers : (List UInt8) → Option ((List Int))) : List (Nat × Spec S) := [(16, spb_lodgerref04_Text g_lodgerref04_Text), (24, spb_lodgerref04_numbers g_lodgerref04_numbers)]
def us_lodgerref04_Parse : List (Nat × Spec S) := [(16, sp_lodgerref04_Text), (24, sp_lodgerref04_numbers)]
noncomputable def Cb_lodgerref04_Parse (g_lodgerref04_Text : Int → Option ((List UInt8))) (g_lodgerref04_numbers : (List UInt8) → Option ((List Int))) : Ctx S := { P := Tryd.prog, E := E, ty := tyL tab, G := glL gtab, spec := spL (usb_lodgerref04_Parse g_lodgerref04_Text g_lodgerref04_numbers), inl := inL [] }
noncomputable def C_lodgerref04_Parse : Ctx S := Cb_lodgerref04_Parse lodgerref04_Text lodgerref04_numbers
theorem evb_lodgerref04_Parse (g_lodgerref04_Text : Int → Option ((List UInt8))) (g_lodgerref04_numbers : (List UInt8) → Option ((List Int))) (L : (St S → D (Int × Int)) → Lp S (Int × Int)) (a0 : (List UInt8)) : (runWF (Cb_lodgerref04_Parse g_lodgerref04_Text g_lodgerref04_numbers) (clDF (Cb_lodgerref04_Parse g_lodgerref04_Text g_lodgerref04_numbers) 0) L 12 [u32, i64] (res2 u32 i64) [encV E Ty.str a0]).opt = lodgerref04_Parse_b g_lodgerref04_Text g_lodgerref04_numbers a0 := by kernel_rfl
theorem ev_lodgerref04_Parse (L : (St S → D (Int × Int)) → Lp S (Int × Int)) (a0 : (List UInt8)) : (runW C_lodgerref04_Parse (clD C_lodgerref04_Parse 0) L 12 [u32, i64] (res2 u32 i64) [encV E Ty.str a0]).opt = lodgerref04_Parse a0 := (congrArg D.opt (runWF_eq _ _ L _ _ _ _)).trans (evb_lodgerref04_Parse lodgerref04_Text lodgerref04_numbers L a0)
theorem ok_lodgerref04_Parse : SpecOK C_lodgerref04_Parse 12 sp_lodgerref04_Parse := by
  have hS := specs_ok (C := C_lodgerref04_Parse) (l := us_lodgerref04_Parse) rfl ⟨ok_lodgerref04_Text.re rfl rfl rfl, ok_lodgerref04_numbers.re rfl rfl rfl, trivial⟩
  refine spec_ok (C := C_lodgerref04_Parse) (cl := (clD C_lodgerref04_Parse 0)) (hd := (fun _ s => some s)) envOK (tyOK_of (l := tab) rfl tabT) hS (clD_ok envOK (tyOK_of (l := tab) rfl tabT) hS mixed (inl_ok (l := []) rfl (by kernel_rfl)) _) mixed HdOK.id (by kernel_rfl) [u32, i64] (res2 u32 i64) (de2 (S := S) u32 i64) fun cs r h => ?_
  obtain ⟨a0, rfl, h⟩ := inv1 h
  exact ⟨0, (ev_lodgerref04_Parse _ a0).trans h⟩
-- lodger/lodgerref04.ParseBlock
def lodgerref04_ParseBlock_b (g_lodgerref04_BlockText : Block → Option ((List UInt8) × Int)) (g_lodgerref04_numbers : (List UInt8) → Option ((List Int))) (a0 : (List UInt8)) : Option (Block × Int) := ((g_lodgerref04_numbers a0).bind fun r1 => (bif ((List.length r1 : Int) != 5) then some ((⟨0, 0⟩ : Block), 2) else ((geti r1 0).bind fun x2 => (bif (decide (x2 > 255)) then some ((⟨0, 0⟩ : Block), 2) else ((geti r1 1).bind fun x3 => (bif (decide (x3 > 255)) then some ((⟨0, 0⟩ : Block), 2) else ((geti r1 2).bind fun x4 => (bif (decide (x4 > 255)) then some ((⟨0, 0⟩ : Block), 2) else ((geti r1 3).bind fun x5 => (bif (decide (x5 > 255)) then some ((⟨0, 0⟩ : Block), 2) else ((geti r1 0).bind fun x6 => ((geti r1 1).bind fun x7 => ((geti r1 2).bind fun x8 => ((geti r1 3).bind fun x9 => ((geti r1 4).bind fun x10 => ((g_lodgerref04_BlockText (⟨(IntKind.wrap .u32 ((IntKind.wrap .u32 ((IntKind.wrap .u32 ((IntKind.wrap .u32 ((IntKind.wrap .u32 x6) * 16777216)) + (IntKind.wrap .u32 ((IntKind.wrap .u32 x7) * 65536)))) + (IntKind.wrap .u32 ((IntKind.wrap .u32 x8) * 256)))) + (IntKind.wrap .u32 x9))), x10⟩ : Block)).bind fun r11 => (bif (r11.2 != 0) then some ((⟨0, 0⟩ : Block), 2) else (bif (!(r11.1 == a0)) then some ((⟨0, 0⟩ : Block), 2) else some ((⟨(IntKind.wrap .u32 ((IntKind.wrap .u32 ((IntKind.wrap .u32 ((IntKind.wrap .u32 ((IntKind.wrap .u32 x6) * 16777216)) + (IntKind.wrap .u32 ((IntKind.wrap .u32 x7) * 65536)))) + (IntKind.wrap .u32 ((IntKind.wrap .u32 x8) * 256)))) + (IntKind.wrap .u32 x9))), x10⟩ : Block), 0)))))))))))))))))))
def sp_lodgerref04_ParseBlock : Spec S := { args := [Ty.str], R := Block × Int, run := run1 Ty.str lodgerref04_ParseBlock, enc := enc2 (S := S) (Ty.st 0) i64 }
def spb_lodgerref04_ParseBlock (F : (List UInt8) → Option (Block × Int)) : Spec S := { args := [Ty.str], R := Block × Int, run := run1 Ty.str F, enc := enc2 (S := S) (Ty.st 0) i64 }
def usb_lodgerref04_ParseBlock (g_lodgerref04_BlockText : Block → Option ((List UInt8) × Int)) (g_lodgerref04_numbers : (List UInt8) → Option ((List Int))) : List (Nat × Spec S) := [(10, spb_lodgerref04_BlockText g_lodgerref04_BlockText), (24, spb_lodgerref04_numbers g_lodgerref04_numbers)]
def us_lodgerref04_ParseBlock : List (Nat × Spec S) := [(10, sp_lodgerref04_BlockText), (24, sp_lodgerref04_numbers)]
noncomputable def Cb_lodgerref04_ParseBlock (g_lodgerref04_BlockText : Block → Option ((List UInt8) × Int)) (g_lodgerref04_numbers : (List UInt8) → Option ((List Int))) : Ctx S := { P := Tryd.prog, E := E, ty := tyL tab, G := glL gtab, spec := spL (usb_lodgerref04_ParseBlock g_lodgerref04_BlockText g_lodgerref04_numbers), inl := inL [] }
noncomputable def C_lodgerref04_ParseBlock : Ctx S := Cb_lodgerref04_ParseBlock lodgerref04_BlockText lodgerref04_numbers
theorem evb_lodgerref04_ParseBlock (g_lodgerref04_BlockText : Block → Option ((List UInt8) × Int)) (g_lodgerref04_numbers : (List UInt8) → Option ((List Int))) (L : (St S → D (Block × Int)) → Lp S (Block × Int)) (a0 : (List UInt8)) : (runWF (Cb_lodgerref04_ParseBlock g_lodgerref04_BlockText g_lodgerref04_numbers) (clDF (Cb_lodgerref04_ParseBlock g_lodgerref04_BlockText g_lodgerref04_numbers) 0) L 14 [(Ty.st 0), i64] (res2 (Ty.st 0) i64) [encV E Ty.str a0]).opt = lodgerref04_ParseBlock_b g_lodgerref04_BlockText g_lodgerref04_numbers a0 := by kernel_rfl
theorem ev_lodgerref04_ParseBlock (L : (St S → D (Block × Int)) → Lp S (Block × Int)) (a0 : (List UInt8)) : (runW C_lodgerref04_ParseBlock (clD C_lodgerref04_ParseBlock 0) L 14 [(Ty.st 0), i64] (res2 (Ty.st 0) i64) [encV E Ty.str a0]).opt = lodgerref04_ParseBlock a0 := (congrArg D.opt (runWF_eq _ _ L _ _ _ _)).trans (evb_lodgerref04_ParseBlock lodgerref04_BlockText lodgerref04_numbers L a0)
theorem ok_lodgerref04_ParseBlock : SpecOK C_lodgerref04_ParseBlock 14 sp_lodgerref04_ParseBlock := by
  have hS := specs_ok (C := C_lodgerref04_ParseBlock) (l := us_lodgerref04_ParseBlock) rfl ⟨ok_lodgerref04_BlockText.re rfl rfl rfl, ok_lodgerref04_numbers.re rfl rfl rfl, trivial⟩
  refine spec_ok (C := C_lodgerref04_ParseBlock) (cl := (clD C_lodgerref04_ParseBlock 0)) (hd := (fun _ s => some s)) envOK (tyOK_of (l := tab) rfl tabT) hS (clD_ok envOK (tyOK_of (l := tab) rfl tabT) hS mixed (inl_ok (l := []) rfl (by kernel_rfl)) _) mixed HdOK.id (by kernel_rfl) [(Ty.st 0), i64] (res2 (Ty.st 0) i64) (de2 (S := S) (Ty.st 0) i64) fun cs r h => ?_
  obtain ⟨a0, rfl, h⟩ := inv1 h
  exact ⟨0, (ev_lodgerref04_ParseBlock _ a0).trans h⟩
-- lodger/lodgerlaw04.last
def lodgerlaw04_last_b (g_addr_Text : Int → Option ((List UInt8))) (a0 : Int) : Option ((List UInt8)) := ((g_addr_Text (IntKind.wrap .u32 a0)).bind fun r1 => (bif (decide ((0 : Int) ≤ 6 ∧ 6 ≤ (List.length r1 : Int) ∧ (List.length r1 : Int) ≤ (r1.length : Int))) then some ((r1.drop (Int.toNat 6)).take (Int.toNat (List.length r1 : Int) - Int.toNat 6)) else none))
def sp_lodgerlaw04_last : Spec S := { args := [(Ty.int .u8)], R := (List UInt8), run := run1 (Ty.int .u8) lodgerlaw04_last, enc := enc1 (S := S) Ty.str }
def spb_lodgerlaw04_last (F : Int → Option ((List UInt8))) : Spec S := { args := [(Ty.int .u8)], R := (List UInt8), run := run1 (Ty.int .u8) F, enc := enc1 (S := S) Ty.str }
def usb_lodgerlaw04_last (g_addr_Text : Int → Option ((List UInt8))) : List (Nat × Spec S) := [(15, spb_addr_Text g_addr_Text)]
def us_lodgerlaw04_last : List (Nat × Spec S) := [(15, sp_addr_Text)]
noncomputable def Cb_lodgerlaw04_last (g_addr_Text : Int → Option ((List UInt8))) : Ctx S := { P := Tryd.prog, E := E, ty := tyL tab, G := glL gtab, spec := spL (usb_lodgerlaw04_last g_addr_Text), inl := inL [] }
noncomputable def C_lodgerlaw04_last : Ctx S := Cb_lodgerlaw04_last addr_Text
theorem evb_lodgerlaw04_last (g_addr_Text : Int → Option ((List UInt8))) (L : (St S → D ((List UInt8))) → Lp S ((List UInt8))) (a0 : Int) : (runWF (Cb_lodgerlaw04_last g_addr_Text) (clDF (Cb_lodgerlaw04_last g_addr_Text) 0) L 19 [Ty.str] (res1 Ty.str) [encV E (Ty.int .u8) a0]).opt = lodgerlaw04_last_b g_addr_Text a0 := by kernel_rfl
theorem ev_lodgerlaw04_last (L : (St S → D ((List UInt8))) → Lp S ((List UInt8))) (a0 : Int) : (runW C_lodgerlaw04_last (clD C_lodgerlaw04_last 0) L 19 [Ty.str] (res1 Ty.str) [encV E (Ty.int .u8) a0]).opt = lodgerlaw04_last a0 := (congrArg D.opt (runWF_eq _ _ L _ _ _ _)).trans (evb_lodgerlaw04_last addr_Text L a0)
theorem ok_lodgerlaw04_last : SpecOK C_lodgerlaw04_last 19 sp_lodgerlaw04_last := by
  have hS := specs_ok (C := C_lodgerlaw04_last) (l := us_lodgerlaw04_last) rfl ⟨ok_addr_Text.re rfl rfl rfl, trivial⟩
  refine spec_ok (C := C_lodgerlaw04_last) (cl := (clD C_lodgerlaw04_last 0)) (hd := (fun _ s => some s)) envOK (tyOK_of (l := tab) rfl tabT) hS (clD_ok envOK (tyOK_of (l := tab) rfl tabT) hS mixed (inl_ok (l := []) rfl (by kernel_rfl)) _) mixed HdOK.id (by kernel_rfl) [Ty.str] (res1 Ty.str) (de1 (S := S) Ty.str) fun cs r h => ?_
  obtain ⟨a0, rfl, h⟩ := inv1 h
  exact ⟨0, (ev_lodgerlaw04_last _ a0).trans h⟩
end Go.Lv.Ld
