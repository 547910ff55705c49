import Derived.Test.YtonphdpgepnenaaDoorLvForce
namespace Go.Lv.Ld
open Go Go.Lv
set_option linter.all false
set_option maxRecDepth 100000
-- lodger/block.Many
def block_Many (a0 : Block) : Option (Int) := (bif (decide ((IntKind.wrap .u64 (IntKind.wrap .i64 (32 - a0.pre))) < 0)) then none else some (shl .i64 1 (IntKind.wrap .u64 (IntKind.wrap .i64 (32 - a0.pre)))))
-- lodger/place.up[int]
def place_up_int_ (a0 : Int) (a1 : Int) : Option (Int) := (bif (a1 == 0) then none else some (IntKind.wrap .i64 (Int.tdiv (IntKind.wrap .i64 ((IntKind.wrap .i64 (a0 + a1)) - 1)) a1)))
-- lodger/place.Leaves
def place_Leaves (a0 : Int) : Option (Int) := ((place_up_int_ a0 32).bind fun r1 => some r1)
-- lodger/place.Tops
def place_Tops (a0 : Int) : Option (Int) := ((place_Leaves a0).bind fun r1 => ((place_up_int_ r1 64).bind fun r2 => some r2))
-- lodger/place.Cells
def place_Cells (a0 : Int) : Option (Int) := ((place_Leaves a0).bind fun r1 => ((place_Tops a0).bind fun r2 => some (IntKind.wrap .i64 ((IntKind.wrap .i64 (r1 + r2)) + 1))))
-- lodger/bits.Mask
def bits_Mask (a0 : Int) : Option (Int) := (bif (decide ((IntKind.wrap .u64 a0) < 0)) then none else some (IntKind.wrap .u64 ((shl .u64 1 (IntKind.wrap .u64 a0)) - 1)))
-- lodger/place.Width
def place_Width (a0 : Int) (a1 : Int) : Option (Int) := some (mm false 32 (IntKind.wrap .i64 (a0 - (IntKind.wrap .i64 (a1 * 32)))))
-- lodger/place.Leaf
def place_Leaf (a0 : Int) : Option (Int × Int) := some ((IntKind.wrap .i64 (Int.tdiv a0 32)), (Int.tmod a0 32))
-- lodger/bits.Set
def bits_Set (a0 : Int) (a1 : Int) : Option (Int) := (bif (decide ((IntKind.wrap .u64 a1) < 0)) then none else some (bit_or .u64 a0 (shl .u64 1 (IntKind.wrap .u64 a1))))
-- lodger/word.New
def word_New_s0 (k0 : Int → Int → (List Int) → Int → Int → Option (Int)) (s1 : Int) (s5 : Int) (s19 : (List Int)) (s20 : Int) (s21 : Int) : Option (Int) := (bif (decide (s21 < s20)) then ((geti s19 s21).bind fun x5 => ((place_Leaf x5).bind fun r6 => (bif (r6.1 == s1) then ((bits_Set s5 r6.2).bind fun r7 => k0 s1 r7 s19 s20 (IntKind.wrap .i64 (s21 + 1))) else k0 s1 s5 s19 s20 (IntKind.wrap .i64 (s21 + 1))))) else some s5)
def word_New_e (k0 : Int → Int → (List Int) → Int → Int → Option (Int)) (a0 : Conf) (a1 : Int) : Option (Int) := ((bits_Mask 32).bind fun r1 => ((block_Many a0.block).bind fun r2 => ((place_Width r2 a1).bind fun r3 => ((bits_Mask r3).bind fun r4 => k0 a1 (bit_andNot .u64 r1 r4) a0.held (List.length a0.held : Int) 0))))
def word_New_l0 : Nat → Int → Int → (List Int) → Int → Int → Option (Int)
  | 0 => fun _ _ _ _ _ => none
  | n + 1 => word_New_s0 (word_New_l0 n)
theorem su0_word_New (n : Nat) : word_New_l0 (n + 1) = word_New_s0 (word_New_l0 n) := rfl
def word_New_n (n : Nat) (a0 : Conf) (a1 : Int) : Option (Int) := word_New_e (word_New_l0 n) a0 a1
def word_New (a0 : Conf) (a1 : Int) : Option (Int) := word_New_n big a0 a1
theorem def_word_New (a0 : Conf) (a1 : Int) : word_New a0 a1 = word_New_n big a0 a1 := rfl
-- lodger/bits.Count
def bits_Count_s0 (k0 : Int → Int → Int → Int → Option (Int)) (s0 : Int) (s5 : Int) (s7 : Int) (s8 : Int) : Option (Int) := (bif (decide (s8 < s7)) then (bif (decide ((IntKind.wrap .u64 s8) < 0)) then none else k0 s0 (IntKind.wrap .i64 (s5 + (IntKind.wrap .i64 (bit_and .u64 (shr .u64 s0 (IntKind.wrap .u64 s8)) 1)))) s7 (IntKind.wrap .i64 (s8 + 1))) else some s5)
def bits_Count_e (k0 : Int → Int → Int → Int → Option (Int)) (a0 : Int) (a1 : Int) : Option (Int) := k0 a0 0 a1 0
def bits_Count_l0 : Nat → Int → Int → Int → Int → Option (Int)
  | 0 => fun _ _ _ _ => none
  | n + 1 => bits_Count_s0 (bits_Count_l0 n)
theorem su0_bits_Count (n : Nat) : bits_Count_l0 (n + 1) = bits_Count_s0 (bits_Count_l0 n) := rfl
def bits_Count_n (n : Nat) (a0 : Int) (a1 : Int) : Option (Int) := bits_Count_e (bits_Count_l0 n) a0 a1
def bits_Count (a0 : Int) (a1 : Int) : Option (Int) := bits_Count_n big a0 a1
theorem def_bits_Count (a0 : Int) (a1 : Int) : bits_Count a0 a1 = bits_Count_n big a0 a1 := rfl
-- lodger/word.Full
def word_Full (a0 : Int) : Option (Bool) := ((bits_Count a0 32).bind fun r1 => some (r1 == 32))
-- lodger/place.Top
def place_Top (a0 : Int) (a1 : Int) : Option (Int × Int) := ((place_Leaves a0).bind fun r1 => some ((IntKind.wrap .i64 (r1 + (IntKind.wrap .i64 (Int.tdiv a1 64)))), (Int.tmod a1 64)))
-- lodger/place.Root
def place_Root (a0 : Int) (a1 : Int) : Option (Int × Int) := ((place_Cells a0).bind fun r1 => some ((IntKind.wrap .i64 (r1 - 1)), (IntKind.wrap .i64 (Int.tdiv a1 64))))
-- lodger/bits.Clear
def bits_Clear (a0 : Int) (a1 : Int) : Option (Int) := (bif (decide ((IntKind.wrap .u64 a1) < 0)) then none else some (bit_andNot .u64 a0 (shl .u64 1 (IntKind.wrap .u64 a1))))
-- lodger/word.Cells
def word_Cells_s0 (k0 : Int → Int → Int → Conf → (List Int) → Option ((List Int))) (k1 : Int → Int → Int → Int → Conf → (List Int) → Option ((List Int))) (s3 : Int) (s19 : Int) (s20 : Int) (m0 : Conf) (m1 : (List Int)) : Option ((List Int)) := (bif (decide (s20 < s19)) then ((place_Leaves s3).bind fun r4 => ((bits_Mask 64).bind fun r5 => (bif (decide (0 ≤ (IntKind.wrap .i64 (r4 + s20)) ∧ (IntKind.wrap .i64 (r4 + s20)) < (m1.length : Int))) then ((m1[(IntKind.wrap .i64 (r4 + s20)).toNat]?).bind fun x6 => k0 s3 s19 (IntKind.wrap .i64 (s20 + 1)) m0 (m1.set ((IntKind.wrap .i64 (r4 + s20)).toNat) r5)) else none))) else ((place_Cells s3).bind fun r7 => ((bits_Mask 64).bind fun r8 => (bif (decide (0 ≤ (IntKind.wrap .i64 (r7 - 1)) ∧ (IntKind.wrap .i64 (r7 - 1)) < (m1.length : Int))) then ((m1[(IntKind.wrap .i64 (r7 - 1)).toNat]?).bind fun x9 => ((place_Leaves s3).bind fun r10 => k1 s3 (IntKind.wrap .i64 (r7 - 1)) r10 0 m0 (m1.set ((IntKind.wrap .i64 (r7 - 1)).toNat) r8))) else none))))
def word_Cells_s1 (k0 : Int → Int → Int → Conf → (List Int) → Option ((List Int))) (k1 : Int → Int → Int → Int → Conf → (List Int) → Option ((List Int))) (s3 : Int) (s6 : Int) (s39 : Int) (s40 : Int) (m0 : Conf) (m1 : (List Int)) : Option ((List Int)) := (bif (decide (s40 < s39)) then ((word_New m0 s40).bind fun r11 => (bif (decide (0 ≤ s40 ∧ s40 < (m1.length : Int))) then ((m1[s40.toNat]?).bind fun x12 => (bif (decide (0 ≤ s40 ∧ s40 < ((m1.set s40.toNat r11).length : Int))) then (((m1.set s40.toNat r11)[s40.toNat]?).bind fun x13 => ((word_Full x13).bind fun r14 => (bif r14 then k1 s3 s6 s39 (IntKind.wrap .i64 (s40 + 1)) m0 (m1.set s40.toNat r11) else ((place_Top s3 s40).bind fun r15 => ((place_Root s3 s40).bind fun r16 => (bif (decide (0 ≤ r15.1 ∧ r15.1 < ((m1.set s40.toNat r11).length : Int))) then (((m1.set s40.toNat r11)[r15.1.toNat]?).bind fun x17 => ((bits_Clear x17 r15.2).bind fun r18 => (bif (decide (0 ≤ s6 ∧ s6 < ((m1.set s40.toNat r11).length : Int))) then (((m1.set s40.toNat r11)[s6.toNat]?).bind fun x19 => ((bits_Clear x19 r16.2).bind fun r20 => (bif (decide (0 ≤ r15.1 ∧ r15.1 < ((m1.set s40.toNat r11).length : Int))) then (((m1.set s40.toNat r11)[r15.1.toNat]?).bind fun x21 => (bif (decide (0 ≤ s6 ∧ s6 < (((m1.set s40.toNat r11).set r15.1.toNat r18).length : Int))) then ((((m1.set s40.toNat r11).set r15.1.toNat r18)[s6.toNat]?).bind fun x22 => k1 s3 s6 s39 (IntKind.wrap .i64 (s40 + 1)) m0 (((m1.set s40.toNat r11).set r15.1.toNat r18).set s6.toNat r20)) else none)) else none))) else none))) else none)))))) else none)) else none)) else some m1)
def word_Cells_e (k0 : Int → Int → Int → Conf → (List Int) → Option ((List Int))) (k1 : Int → Int → Int → Int → Conf → (List Int) → Option ((List Int))) (a0 : Conf) : Option ((List Int)) := ((block_Many a0.block).bind fun r1 => ((place_Cells r1).bind fun r2 => (bif (ieq r2 r2 && okLen r2) then ((place_Tops r1).bind fun r3 => k0 r1 r3 0 a0 (List.replicate (Int.toNat r2) (0 : Int))) else none)))
def word_Cells_ls : Nat → (Int → Int → Int → Conf → (List Int) → Option ((List Int))) × (Int → Int → Int → Int → Conf → (List Int) → Option ((List Int)))
  | 0 => (fun _ _ _ _ _ => none, fun _ _ _ _ _ _ => none)
  | n + 1 => (word_Cells_s0 (word_Cells_ls n).1 (word_Cells_ls n).2, word_Cells_s1 (word_Cells_ls n).1 (word_Cells_ls n).2)
def word_Cells_l0 (n : Nat) : Int → Int → Int → Conf → (List Int) → Option ((List Int)) := (word_Cells_ls n).1
def word_Cells_l1 (n : Nat) : Int → Int → Int → Int → Conf → (List Int) → Option ((List Int)) := (word_Cells_ls n).2
theorem su0_word_Cells (n : Nat) : word_Cells_l0 (n + 1) = word_Cells_s0 (word_Cells_l0 n) (word_Cells_l1 n) := rfl
theorem su1_word_Cells (n : Nat) : word_Cells_l1 (n + 1) = word_Cells_s1 (word_Cells_l0 n) (word_Cells_l1 n) := rfl
def word_Cells_n (n : Nat) (a0 : Conf) : Option ((List Int)) := word_Cells_e (word_Cells_l0 n) (word_Cells_l1 n) a0
def word_Cells (a0 : Conf) : Option ((List Int)) := word_Cells_n big a0
theorem def_word_Cells (a0 : Conf) : word_Cells a0 = word_Cells_n big a0 := rfl
-- lodger/ask.size
def ask_size (a0 : Ask) : Option (Int) := (bif (a0.kind != 4) then some 0 else (bif ((List.length a0.addrs : Int) == 0) then some 7 else (bif (decide ((List.length a0.addrs : Int) > 64)) then some 1 else some 0)))
-- lodger/ask.Names
def ask_Names (a0 : Ask) : Option ((List Int)) := (bif (a0.kind == 4) then none else (bif (decide (a0.kind ≥ 0)) then (bif (decide (a0.kind < 6)) then (bif (a0.kind == (0 : Int)) then some [] else (bif (a0.kind == (1 : Int)) then some [] else (bif (a0.kind == (2 : Int)) then some ([a0.addr] : List Int) else (bif (a0.kind == (3 : Int)) then some ([a0.addr] : List Int) else (bif (a0.kind == (4 : Int)) then some [] else (bif (a0.kind == (5 : Int)) then some ([a0.addr] : List Int) else none)))))) else some []) else some []))
-- lodger/block.Offset
def block_Offset (a0 : Block) (a1 : Int) : Option (Int × Int) := (bif (decide ((IntKind.wrap .i64 ((IntKind.wrap .i64 a1) - (IntKind.wrap .i64 a0.base))) ≥ 0)) then ((block_Many a0).bind fun r1 => (bif (decide ((IntKind.wrap .i64 ((IntKind.wrap .i64 a1) - (IntKind.wrap .i64 a0.base))) < r1)) then some ((IntKind.wrap .i64 ((IntKind.wrap .i64 a1) - (IntKind.wrap .i64 a0.base))), 0) else some (0, 3))) else some (0, 3))
-- slices.Index[[]int,int]
def slices_Index_s0 (k0 : (List Int) → Int → Int → Int → Option (Int)) (s0 : (List Int)) (s1 : Int) (s7 : Int) (s8 : Int) : Option (Int) := (bif (decide (s8 < s7)) then ((geti s0 s8).bind fun x1 => (bif (s1 == x1) then some s8 else k0 s0 s1 s7 (IntKind.wrap .i64 (s8 + 1)))) else some (-1))
def slices_Index_e (k0 : (List Int) → Int → Int → Int → Option (Int)) (a0 : (List Int)) (a1 : Int) : Option (Int) := k0 a0 a1 (List.length a0 : Int) 0
def slices_Index_l0 : Nat → (List Int) → Int → Int → Int → Option (Int)
  | 0 => fun _ _ _ _ => none
  | n + 1 => slices_Index_s0 (slices_Index_l0 n)
theorem su0_slices_Index (n : Nat) : slices_Index_l0 (n + 1) = slices_Index_s0 (slices_Index_l0 n) := rfl
def slices_Index_n (n : Nat) (a0 : (List Int)) (a1 : Int) : Option (Int) := slices_Index_e (slices_Index_l0 n) a0 a1
def slices_Index (a0 : (List Int)) (a1 : Int) : Option (Int) := slices_Index_n big a0 a1
theorem def_slices_Index (a0 : (List Int)) (a1 : Int) : slices_Index a0 a1 = slices_Index_n big a0 a1 := rfl
-- slices.Contains[[]int,int]
def slices_Contains (a0 : (List Int)) (a1 : Int) : Option (Bool) := ((slices_Index a0 a1).bind fun r1 => some (decide (r1 ≥ 0)))
-- lodger/block.Held
def block_Held (a0 : Conf) (a1 : Int) : Option (Bool) := ((slices_Contains a0.held a1).bind fun r1 => some r1)
-- lodger/block.Find
def block_Find (a0 : Conf) (a1 : Int) : Option (Int × Int) := ((block_Offset a0.block a1).bind fun r1 => (bif (r1.2 != 0) then some (0, r1.2) else ((block_Held a0 r1.1).bind fun r2 => (bif r2 then some (0, 4) else some (r1.1, 0)))))
-- lodger/ask.Check
def ask_Check_s0 (k0 : (List Int) → Int → Int → Conf → (List (Int × Bool)) → Option (Int)) (s26 : (List Int)) (s27 : Int) (s28 : Int) (m0 : Conf) (m2 : (List (Int × Bool))) : Option (Int) := (bif (decide (s28 < s27)) then ((geti s26 s28).bind fun x3 => ((block_Find m0 x3).bind fun r4 => (bif (r4.2 != 0) then some r4.2 else (bif (mget x3 m2) then some 8 else k0 s26 s27 (IntKind.wrap .i64 (s28 + 1)) m0 (mput x3 true m2))))) else some 0)
def ask_Check_e (k0 : (List Int) → Int → Int → Conf → (List (Int × Bool)) → Option (Int)) (a0 : Conf) (a1 : Ask) : Option (Int) := (bif (decide (a1.kind < 1)) then some 1 else (bif (decide (a1.kind > 7)) then some 1 else ((ask_size a1).bind fun r1 => (bif (r1 != 0) then some r1 else ((ask_Names a1).bind fun r2 => k0 r2 (List.length r2 : Int) 0 a0 ([] : List (Int × Bool)))))))
def ask_Check_l0 : Nat → (List Int) → Int → Int → Conf → (List (Int × Bool)) → Option (Int)
  | 0 => fun _ _ _ _ _ => none
  | n + 1 => ask_Check_s0 (ask_Check_l0 n)
theorem su0_ask_Check (n : Nat) : ask_Check_l0 (n + 1) = ask_Check_s0 (ask_Check_l0 n) := rfl
def ask_Check_n (n : Nat) (a0 : Conf) (a1 : Ask) : Option (Int) := ask_Check_e (ask_Check_l0 n) a0 a1
def ask_Check (a0 : Conf) (a1 : Ask) : Option (Int) := ask_Check_n big a0 a1
theorem def_ask_Check (a0 : Conf) (a1 : Ask) : ask_Check a0 a1 = ask_Check_n big a0 a1 := rfl
-- lodger/grant.Begin
def grant_Begin (a0 : Int) : Option (Oq) := some (⟨⟨1, 0, []⟩, ⟨0, 0, false, [], []⟩, 1, a0, 0, 0, 0, 0, false, [], 0, 0, 0, 0⟩ : Oq)
-- lodger/exact.Begin
def exact_Begin (a0 : Conf) (a1 : Ask) : Option (Oq) := ((block_Offset a0.block a1.addr).bind fun r1 => ((place_Leaf r1.1).bind fun r2 => some (⟨a1, ⟨0, 0, false, [], []⟩, 8, 0, 0, r2.1, r2.2, 0, false, [], 0, 0, 0, 0⟩ : Oq)))
-- lodger/batch.Begin
def batch_Begin (a0 : Conf) (a1 : Ask) : Option (Oq) := (bif (a1.kind == 4) then ((geti a1.addrs 0).bind fun x1 => ((block_Offset a0.block x1).bind fun r2 => ((place_Leaf r2.1).bind fun r3 => some (⟨a1, ⟨0, 0, false, [], []⟩, 8, 0, 0, r3.1, r3.2, 0, false, [], 0, 0, 0, 0⟩ : Oq)))) else ((block_Offset a0.block a1.addr).bind fun r4 => ((place_Leaf r4.1).bind fun r5 => some (⟨a1, ⟨0, 0, false, [], []⟩, 8, 0, 0, r5.1, r5.2, 0, false, [], 0, 0, 0, 0⟩ : Oq))))
-- lodger/sweep.Begin
def sweep_Begin (a0 : Oq) : Option (Oq) := some ({ a0 with phase := 6, seen := [], at_ := 0 } : Oq)
-- lodger/snap.Begin
def snap_Begin  : Option (Oq) := ((sweep_Begin (⟨⟨6, 0, []⟩, ⟨0, 0, false, [], []⟩, 0, 0, 0, 0, 0, 0, false, [], 0, 0, 0, 0⟩ : Oq)).bind fun r1 => some r1)
-- lodger/pool.Begin
def pool_Begin (a0 : Conf) (a1 : Int) (a2 : Ask) : Option (Oq × Bool) := (bif (ieq a2.kind 1) then ((ask_Check a0 a2).bind fun r1 => (bif (not (r1 == 0)) then ((ask_Check a0 a2).bind fun r2 => some ((⟨a2, ⟨r2, 0, false, [], []⟩, 0, 0, 0, 0, 0, 0, false, [], 0, 0, 0, 0⟩ : Oq), true)) else ((grant_Begin a1).bind fun r3 => some (({ r3 with ask := a2 } : Oq), false)))) else (bif (ieq a2.kind 2) then ((ask_Check a0 a2).bind fun r4 => (bif (not (r4 == 0)) then ((ask_Check a0 a2).bind fun r5 => some ((⟨a2, ⟨r5, 0, false, [], []⟩, 0, 0, 0, 0, 0, 0, false, [], 0, 0, 0, 0⟩ : Oq), true)) else ((exact_Begin a0 a2).bind fun r6 => some (r6, false)))) else (bif (ieq a2.kind 3) then ((ask_Check a0 a2).bind fun r7 => (bif (not (r7 == 0)) then ((ask_Check a0 a2).bind fun r8 => some ((⟨a2, ⟨r8, 0, false, [], []⟩, 0, 0, 0, 0, 0, 0, false, [], 0, 0, 0, 0⟩ : Oq), true)) else ((batch_Begin a0 a2).bind fun r9 => some (r9, false)))) else (bif (ieq a2.kind 4) then ((ask_Check a0 a2).bind fun r10 => (bif (not (r10 == 0)) then ((ask_Check a0 a2).bind fun r11 => some ((⟨a2, ⟨r11, 0, false, [], []⟩, 0, 0, 0, 0, 0, 0, false, [], 0, 0, 0, 0⟩ : Oq), true)) else ((batch_Begin a0 a2).bind fun r12 => some (r12, false)))) else (bif (ieq a2.kind 5) then ((ask_Check a0 a2).bind fun r13 => (bif (not (r13 == 0)) then ((ask_Check a0 a2).bind fun r14 => some ((⟨a2, ⟨r14, 0, false, [], []⟩, 0, 0, 0, 0, 0, 0, false, [], 0, 0, 0, 0⟩ : Oq), true)) else ((exact_Begin a0 a2).bind fun r15 => some (r15, false)))) else (bif (ieq a2.kind 6) then ((ask_Check a0 a2).bind fun r16 => (bif (not (r16 == 0)) then ((ask_Check a0 a2).bind fun r17 => some ((⟨a2, ⟨r17, 0, false, [], []⟩, 0, 0, 0, 0, 0, 0, false, [], 0, 0, 0, 0⟩ : Oq), true)) else (snap_Begin.bind fun r18 => some (({ r18 with ask := a2 } : Oq), false)))) else ((ask_Check a0 a2).bind fun r19 => some ((⟨a2, ⟨r19, 0, false, [], []⟩, 0, 0, 0, 0, 0, 0, false, [], 0, 0, 0, 0⟩ : Oq), true))))))))
-- lodger/pool.Told
def pool_Told (a0 : Oq) : Option (Answer) := (bif (a0.ask.kind == 4) then (bif (decide ((List.length a0.answer.errs : Int) > 0)) then ((geti a0.answer.errs (IntKind.wrap .i64 ((List.length a0.answer.errs : Int) - 1))).bind fun x1 => some (⟨x1, 0, false, [], []⟩ : Answer)) else some a0.answer) else some a0.answer)
-- lodger/pool.Step
def pool_Step (a0 : Conf) (a1 : (List Int)) (a2 : Oq) : Option ((List Int) × Oq × Bool) := (bif (a2.phase == 0) then some (a1, a2, false) else (bif (ieq a2.ask.kind 1) then none else (bif (ieq a2.ask.kind 2) then none else (bif (ieq a2.ask.kind 3) then none else (bif (ieq a2.ask.kind 4) then none else (bif (ieq a2.ask.kind 5) then none else (bif (ieq a2.ask.kind 6) then none else none)))))))
-- lodger/pool.Most
def pool_Most (a0 : Conf) (a1 : Ask) : Option (Int) := (bif (ieq a1.kind 1) then ((ask_Check a0 a1).bind fun r1 => (bif (r1 == 0) then ((block_Many a0.block).bind fun r2 => ((place_Tops r2).bind fun r3 => ((place_Leaves r2).bind fun r4 => some (IntKind.wrap .i64 ((IntKind.wrap .i64 ((IntKind.wrap .i64 (a0.shards * (IntKind.wrap .i64 (r3 + 3)))) + (IntKind.wrap .i64 (2 * r4)))) + 6))))) else some 0)) else (bif (ieq a1.kind 2) then ((ask_Check a0 a1).bind fun r5 => (bif (r5 == 0) then some 6 else some 0)) else (bif (ieq a1.kind 3) then ((ask_Check a0 a1).bind fun r6 => (bif (r6 == 0) then ((ask_Names a1).bind fun r7 => some (IntKind.wrap .i64 (6 * (List.length r7 : Int)))) else some 0)) else (bif (ieq a1.kind 4) then ((ask_Check a0 a1).bind fun r8 => (bif (r8 == 0) then ((ask_Names a1).bind fun r9 => some (IntKind.wrap .i64 (6 * (List.length r9 : Int)))) else some 0)) else (bif (ieq a1.kind 5) then ((ask_Check a0 a1).bind fun r10 => (bif (r10 == 0) then some 6 else some 0)) else (bif (ieq a1.kind 6) then ((ask_Check a0 a1).bind fun r11 => (bif (r11 == 0) then ((block_Many a0.block).bind fun r12 => ((place_Leaves r12).bind fun r13 => some (IntKind.wrap .i64 ((IntKind.wrap .i64 (a0.tries * 2)) * r13)))) else some 0)) else some 0))))))
-- lodger/lodgerref08.Addrs
def lodgerref08_Addrs_s0 (k0 : (List Int) → (List Int) → Int → Option (Bool)) (s0 : (List Int)) (s1 : (List Int)) (s5 : Int) : Option (Bool) := (bif (decide (s5 < (List.length s0 : Int))) then ((geti s0 s5).bind fun x1 => ((geti s1 s5).bind fun x2 => (bif (x1 != x2) then some false else k0 s0 s1 (IntKind.wrap .i64 (s5 + 1))))) else some true)
def lodgerref08_Addrs_e (k0 : (List Int) → (List Int) → Int → Option (Bool)) (a0 : (List Int)) (a1 : (List Int)) : Option (Bool) := (bif ((List.length a0 : Int) != (List.length a1 : Int)) then some false else k0 a0 a1 0)
def lodgerref08_Addrs_l0 : Nat → (List Int) → (List Int) → Int → Option (Bool)
  | 0 => fun _ _ _ => none
  | n + 1 => lodgerref08_Addrs_s0 (lodgerref08_Addrs_l0 n)
theorem su0_lodgerref08_Addrs (n : Nat) : lodgerref08_Addrs_l0 (n + 1) = lodgerref08_Addrs_s0 (lodgerref08_Addrs_l0 n) := rfl
def lodgerref08_Addrs_n (n : Nat) (a0 : (List Int)) (a1 : (List Int)) : Option (Bool) := lodgerref08_Addrs_e (lodgerref08_Addrs_l0 n) a0 a1
def lodgerref08_Addrs (a0 : (List Int)) (a1 : (List Int)) : Option (Bool) := lodgerref08_Addrs_n big a0 a1
theorem def_lodgerref08_Addrs (a0 : (List Int)) (a1 : (List Int)) : lodgerref08_Addrs a0 a1 = lodgerref08_Addrs_n big a0 a1 := rfl
-- lodger/lodgerref08.Errs
def lodgerref08_Errs_s0 (k0 : (List Int) → (List Int) → Int → Option (Bool)) (s0 : (List Int)) (s1 : (List Int)) (s5 : Int) : Option (Bool) := (bif (decide (s5 < (List.length s0 : Int))) then ((geti s0 s5).bind fun x1 => ((geti s1 s5).bind fun x2 => (bif (x1 != x2) then some false else k0 s0 s1 (IntKind.wrap .i64 (s5 + 1))))) else some true)
def lodgerref08_Errs_e (k0 : (List Int) → (List Int) → Int → Option (Bool)) (a0 : (List Int)) (a1 : (List Int)) : Option (Bool) := (bif ((List.length a0 : Int) != (List.length a1 : Int)) then some false else k0 a0 a1 0)
def lodgerref08_Errs_l0 : Nat → (List Int) → (List Int) → Int → Option (Bool)
  | 0 => fun _ _ _ => none
  | n + 1 => lodgerref08_Errs_s0 (lodgerref08_Errs_l0 n)
theorem su0_lodgerref08_Errs (n : Nat) : lodgerref08_Errs_l0 (n + 1) = lodgerref08_Errs_s0 (lodgerref08_Errs_l0 n) := rfl
def lodgerref08_Errs_n (n : Nat) (a0 : (List Int)) (a1 : (List Int)) : Option (Bool) := lodgerref08_Errs_e (lodgerref08_Errs_l0 n) a0 a1
def lodgerref08_Errs (a0 : (List Int)) (a1 : (List Int)) : Option (Bool) := lodgerref08_Errs_n big a0 a1
theorem def_lodgerref08_Errs (a0 : (List Int)) (a1 : (List Int)) : lodgerref08_Errs a0 a1 = lodgerref08_Errs_n big a0 a1 := rfl
-- lodger/lodgerref08.Answers
def lodgerref08_Answers (a0 : Answer) (a1 : Answer) : Option (Bool) := (bif (a0.err == a1.err) then (bif (a0.addr == a1.addr) then (bif (a0.used == a1.used) then ((lodgerref08_Addrs a0.addrs a1.addrs).bind fun r1 => (bif r1 then ((lodgerref08_Errs a0.errs a1.errs).bind fun r2 => some r2) else some false)) else some false) else some false) else some false)
-- lodger/lodgerref08.Asks
def lodgerref08_Asks (a0 : Ask) (a1 : Ask) : Option (Bool) := (bif (a0.kind == a1.kind) then (bif (a0.addr == a1.addr) then ((lodgerref08_Addrs a0.addrs a1.addrs).bind fun r1 => some r1) else some false) else some false)
-- lodger/lodgerref02.Same
def lodgerref02_Same_s0 (k0 : (List Int) → (List Int) → Int → Option (Bool)) (s0 : (List Int)) (s1 : (List Int)) (s5 : Int) : Option (Bool) := (bif (decide (s5 < (List.length s0 : Int))) then ((geti s0 s5).bind fun x1 => ((geti s1 s5).bind fun x2 => (bif (x1 != x2) then some false else k0 s0 s1 (IntKind.wrap .i64 (s5 + 1))))) else some true)
def lodgerref02_Same_e (k0 : (List Int) → (List Int) → Int → Option (Bool)) (a0 : (List Int)) (a1 : (List Int)) : Option (Bool) := (bif ((List.length a0 : Int) != (List.length a1 : Int)) then some false else k0 a0 a1 0)
def lodgerref02_Same_l0 : Nat → (List Int) → (List Int) → Int → Option (Bool)
  | 0 => fun _ _ _ => none
  | n + 1 => lodgerref02_Same_s0 (lodgerref02_Same_l0 n)
theorem su0_lodgerref02_Same (n : Nat) : lodgerref02_Same_l0 (n + 1) = lodgerref02_Same_s0 (lodgerref02_Same_l0 n) := rfl
def lodgerref02_Same_n (n : Nat) (a0 : (List Int)) (a1 : (List Int)) : Option (Bool) := lodgerref02_Same_e (lodgerref02_Same_l0 n) a0 a1
def lodgerref02_Same (a0 : (List Int)) (a1 : (List Int)) : Option (Bool) := lodgerref02_Same_n big a0 a1
theorem def_lodgerref02_Same (a0 : (List Int)) (a1 : (List Int)) : lodgerref02_Same a0 a1 = lodgerref02_Same_n big a0 a1 := rfl
-- lodger/lodgerref08.Same
def lodgerref08_Same (a0 : Oq) (a1 : Oq) : Option (Bool) := ((lodgerref08_Asks a0.ask a1.ask).bind fun r1 => (bif r1 then ((lodgerref08_Answers a0.answer a1.answer).bind fun r2 => (bif r2 then (bif (a0.phase == a1.phase) then (bif (a0.shard == a1.shard) then (bif (a0.sought == a1.sought) then (bif (a0.leaf == a1.leaf) then (bif (a0.bit == a1.bit) then (bif (a0.word == a1.word) then (bif (a0.full == a1.full) then ((lodgerref02_Same a0.seen a1.seen).bind fun r3 => (bif r3 then (bif (a0.at_ == a1.at_) then (bif (a0.tries == a1.tries) then (bif (a0.item == a1.item) then some (a0.stamp == a1.stamp) else some false) else some false) else some false) else some false)) else some false) else some false) else some false) else some false) else some false) else some false) else some false) else some false)) else some false))
-- lodger/lodgerlaw21.awake
def lodgerlaw21_awake  : Option (Bool) := ((pool_Begin (⟨⟨4, 30⟩, ([0] : List Int), 1, 1, 1, 2⟩ : Conf) 0 (⟨3, 4, []⟩ : Ask)).bind fun r1 => ((pool_Begin (⟨⟨4, 30⟩, ([0] : List Int), 1, 1, 1, 2⟩ : Conf) 0 (⟨7, 0, []⟩ : Ask)).bind fun r2 => ((pool_Begin (⟨⟨4, 30⟩, ([0] : List Int), 1, 1, 1, 2⟩ : Conf) 0 (⟨1, 0, []⟩ : Ask)).bind fun r3 => ((word_Cells (⟨⟨4, 30⟩, ([0] : List Int), 1, 1, 1, 2⟩ : Conf)).bind fun r4 => ((pool_Step (⟨⟨4, 30⟩, ([0] : List Int), 1, 1, 1, 2⟩ : Conf) r4 r1.1).bind fun r5 => ((pool_Told (⟨⟨4, 0, []⟩, ⟨0, 0, false, [], ([0, 6] : List Int)⟩, 0, 0, 0, 0, 0, 0, false, [], 0, 0, 0, 0⟩ : Oq)).bind fun r6 => (bif r1.2 then (bif (r1.1.answer.err == 4) then (bif (r1.1.phase == 0) then (bif r2.2 then (bif (r2.1.answer.err == 0) then (bif (not r3.2) then (bif (r3.1.phase == 1) then (bif (not r5.2.2) then ((lodgerref08_Same r5.2.1 r1.1).bind fun r7 => (bif r7 then (bif ((List.length r5.1 : Int) == 3) then (bif (r6.err == 6) then (bif ((List.length r6.errs : Int) == 0) then ((pool_Most (⟨⟨4, 30⟩, ([0] : List Int), 1, 1, 1, 2⟩ : Conf) (⟨1, 0, []⟩ : Ask)).bind fun r8 => (bif (r8 == 12) then ((pool_Most (⟨⟨4, 30⟩, ([0] : List Int), 1, 1, 1, 2⟩ : Conf) (⟨6, 0, []⟩ : Ask)).bind fun r9 => (bif (r9 == 4) then ((pool_Most (⟨⟨4, 30⟩, ([0] : List Int), 1, 1, 1, 2⟩ : Conf) (⟨7, 0, []⟩ : Ask)).bind fun r10 => (bif (r10 == 0) then ((pool_Most (⟨⟨4, 30⟩, ([0] : List Int), 1, 1, 1, 2⟩ : Conf) (⟨5, 5, []⟩ : Ask)).bind fun r11 => some (r11 == 6)) else some false)) else some false)) else some false)) else some false) else some false) else some false) else some false)) else some false) else some false) else some false) else some false) else some false) else some false) else some false) else some false)))))))
-- lodger/lodgerlaw21.PoolTold
def lodgerlaw21_PoolTold (a0 : Oq) (a1 : Int) : Option (Bool) := (lodgerlaw21_awake.bind fun r1 => (bif (not r1) then (lodgerlaw21_awake.bind fun r2 => some r2) else (bif (decide ((List.length a0.answer.errs : Int) > 300)) then (lodgerlaw21_awake.bind fun r3 => some r3) else (bif (decide ((List.length a0.answer.addrs : Int) > 300)) then (lodgerlaw21_awake.bind fun r4 => some r4) else (bif (decide ((List.length a0.seen : Int) > 300)) then (lodgerlaw21_awake.bind fun r5 => some r5) else (bif (decide ((List.length a0.ask.addrs : Int) > 300)) then (lodgerlaw21_awake.bind fun r6 => some r6) else (bif (decide (a0.answer.errs.length ≤ maxList)) then (bif (decide (a0.answer.errs.length + ([(IntKind.wrap .i64 (Int.tmod a1 13))] : List Int).length ≤ maxList)) then ((pool_Told ({ a0 with ask := ⟨4, a0.ask.addr, a0.ask.addrs⟩, answer := ⟨a0.answer.err, a0.answer.addr, a0.answer.used, a0.answer.addrs, (a0.answer.errs ++ ([(IntKind.wrap .i64 (Int.tmod a1 13))] : List Int))⟩ } : Oq)).bind fun r7 => ((lodgerref08_Answers r7 (⟨(IntKind.wrap .i64 (Int.tmod a1 13)), 0, false, [], []⟩ : Answer)).bind fun r8 => (bif r8 then ((pool_Told ({ a0 with ask := ⟨3, a0.ask.addr, a0.ask.addrs⟩ } : Oq)).bind fun r9 => ((lodgerref08_Answers r9 a0.answer).bind fun r10 => (bif r10 then ((pool_Told ({ a0 with ask := ⟨4, a0.ask.addr, a0.ask.addrs⟩, answer := ⟨a0.answer.err, a0.answer.addr, a0.answer.used, a0.answer.addrs, []⟩ } : Oq)).bind fun r11 => ((lodgerref08_Answers r11 ({ a0.answer with errs := [] } : Answer)).bind fun r12 => some r12)) else some false))) else some false))) else none) else none)))))))
end Go.Lv.Ld
