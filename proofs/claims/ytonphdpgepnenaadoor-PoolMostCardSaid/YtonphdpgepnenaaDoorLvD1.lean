import Derived.Test.YtonphdpgepnenaaDoorLvForce
namespace Go.Lv.Ld
open Go Go.Lv
set_option linter.all false
set_option maxRecDepth 100000
-- lodger/bits.Has
def bits_Has (a0 : Int) (a1 : Int) : Option (Bool) := (bif (decide ((IntKind.wrap .u64 a1) < 0)) then none else some ((bit_and .u64 (shr .u64 a0 (IntKind.wrap .u64 a1)) 1) == 1))
-- lodger/hint.Find
def hint_Find_s0 (k0 : Int → Int → Int → Option (Int × Bool)) (s0 : Int) (s2 : Int) (s8 : Int) : Option (Int × Bool) := (bif (decide (s8 < s2)) then ((bits_Has s0 s8).bind fun r1 => (bif (not r1) then some (s8, true) else k0 s0 s2 (IntKind.wrap .i64 (s8 + 1)))) else some (0, false))
def hint_Find_e (k0 : Int → Int → Int → Option (Int × Bool)) (a0 : Int) (a1 : Int) (a2 : Int) : Option (Int × Bool) := k0 a0 a2 a1
def hint_Find_l0 : Nat → Int → Int → Int → Option (Int × Bool)
  | 0 => fun _ _ _ => none
  | n + 1 => hint_Find_s0 (hint_Find_l0 n)
theorem su0_hint_Find (n : Nat) : hint_Find_l0 (n + 1) = hint_Find_s0 (hint_Find_l0 n) := rfl
def hint_Find_n (n : Nat) (a0 : Int) (a1 : Int) (a2 : Int) : Option (Int × Bool) := hint_Find_e (hint_Find_l0 n) a0 a1 a2
def hint_Find (a0 : Int) (a1 : Int) (a2 : Int) : Option (Int × Bool) := hint_Find_n big a0 a1 a2
theorem def_hint_Find (a0 : Int) (a1 : Int) (a2 : Int) : hint_Find a0 a1 a2 = hint_Find_n big a0 a1 a2 := rfl
-- lodger/block.Many
def block_Many (a0 : Block) : Option (Int) := (bif (decide ((IntKind.wrap .u64 (IntKind.wrap .i64 (32 - a0.pre))) < 0)) then none else some (shl .i64 1 (IntKind.wrap .u64 (IntKind.wrap .i64 (32 - a0.pre)))))
-- lodger/block.Offset
def block_Offset (a0 : Block) (a1 : Int) : Option (Int × Int) := (bif (decide ((IntKind.wrap .i64 ((IntKind.wrap .i64 a1) - (IntKind.wrap .i64 a0.base))) ≥ 0)) then ((block_Many a0).bind fun r1 => (bif (decide ((IntKind.wrap .i64 ((IntKind.wrap .i64 a1) - (IntKind.wrap .i64 a0.base))) < r1)) then some ((IntKind.wrap .i64 ((IntKind.wrap .i64 a1) - (IntKind.wrap .i64 a0.base))), 0) else some (0, 3))) else some (0, 3))
-- lodger/place.Leaf
def place_Leaf (a0 : Int) : Option (Int × Int) := some ((IntKind.wrap .i64 (Int.tdiv a0 32)), (Int.tmod a0 32))
-- lodger/hint.Goes
def hint_Goes (a0 : Conf) (a1 : Oq) : Option (Oq) := (bif (a1.ask.kind != 4) then some ({ a1 with phase := 0, word := 0, full := false, at_ := 0 } : Oq) else (bif (decide ((IntKind.wrap .i64 (a1.item + 1)) ≥ (List.length a1.ask.addrs : Int))) then some ({ a1 with phase := 0, word := 0, full := false, at_ := 0 } : Oq) else ((geti a1.ask.addrs (IntKind.wrap .i64 (a1.item + 1))).bind fun x1 => ((block_Offset a0.block x1).bind fun r2 => ((place_Leaf r2.1).bind fun r3 => some ({ a1 with phase := 8, leaf := r3.1, bit := r3.2, word := 0, full := false, at_ := 0, item := (IntKind.wrap .i64 (a1.item + 1)) } : Oq))))))
-- lodger/place.up[int]
def place_up_int_ (a0 : Int) (a1 : Int) : Option (Int) := (bif (a1 == 0) then none else some (IntKind.wrap .i64 (Int.tdiv (IntKind.wrap .i64 ((IntKind.wrap .i64 (a0 + a1)) - 1)) a1)))
-- lodger/place.Leaves
def place_Leaves (a0 : Int) : Option (Int) := ((place_up_int_ a0 32).bind fun r1 => some r1)
-- lodger/place.Top
def place_Top (a0 : Int) (a1 : Int) : Option (Int × Int) := ((place_Leaves a0).bind fun r1 => some ((IntKind.wrap .i64 (r1 + (IntKind.wrap .i64 (Int.tdiv a1 64)))), (Int.tmod a1 64)))
-- lodger/place.Tops
def place_Tops (a0 : Int) : Option (Int) := ((place_Leaves a0).bind fun r1 => ((place_up_int_ r1 64).bind fun r2 => some r2))
-- lodger/place.Cells
def place_Cells (a0 : Int) : Option (Int) := ((place_Leaves a0).bind fun r1 => ((place_Tops a0).bind fun r2 => some (IntKind.wrap .i64 ((IntKind.wrap .i64 (r1 + r2)) + 1))))
-- lodger/place.Root
def place_Root (a0 : Int) (a1 : Int) : Option (Int × Int) := ((place_Cells a0).bind fun r1 => some ((IntKind.wrap .i64 (r1 - 1)), (IntKind.wrap .i64 (Int.tdiv a1 64))))
-- lodger/hint.where
def hint_where (a0 : Conf) (a1 : Oq) : Option (Int × Int) := ((block_Many a0.block).bind fun r1 => (bif (a1.at_ == (0 : Int)) then ((place_Top r1 a1.leaf).bind fun r2 => some (r2.1, r2.2)) else (bif (a1.at_ == (1 : Int)) then ((place_Root r1 a1.leaf).bind fun r3 => some (r3.1, r3.2)) else none)))
-- lodger/cells.is
def cells_is (a0 : (List Int)) (a1 : Int) : Option (Bool) := (bif (decide (a1 ≥ 0)) then some (decide (a1 < (List.length a0 : Int))) else some false)
-- lodger/cells.Load
def cells_Load (a0 : (List Int)) (a1 : Int) : Option (Int) := ((cells_is a0 a1).bind fun r1 => (bif (not r1) then some 0 else ((geti a0 a1).bind fun x2 => some x2)))
-- lodger/hint.done
def hint_done (a0 : Conf) (a1 : Oq) : Option (Oq) := (bif (a1.at_ == 1) then ((hint_Goes a0 a1).bind fun r1 => some r1) else (bif a1.full then (bif (a1.word != 18446744073709551615) then ((hint_Goes a0 a1).bind fun r2 => some r2) else some ({ a1 with phase := 4, at_ := 1 } : Oq)) else some ({ a1 with phase := 4, at_ := 1 } : Oq)))
-- lodger/bits.Clear
def bits_Clear (a0 : Int) (a1 : Int) : Option (Int) := (bif (decide ((IntKind.wrap .u64 a1) < 0)) then none else some (bit_andNot .u64 a0 (shl .u64 1 (IntKind.wrap .u64 a1))))
-- lodger/bits.Set
def bits_Set (a0 : Int) (a1 : Int) : Option (Int) := (bif (decide ((IntKind.wrap .u64 a1) < 0)) then none else some (bit_or .u64 a0 (shl .u64 1 (IntKind.wrap .u64 a1))))
-- lodger/cells.Store
def cells_Store (a0 : (List Int)) (a1 : Int) (a2 : Int) : Option ((List Int)) := ((cells_is a0 a1).bind fun r1 => (bif (not r1) then some a0 else (bif (ieq (List.length a0 : Int) (List.length a0 : Int) && okLen (List.length a0 : Int)) then (bif (decide (0 ≤ a1 ∧ a1 < ((a0.take (List.replicate (Int.toNat (List.length a0 : Int)) (0 : Int)).length ++ (List.replicate (Int.toNat (List.length a0 : Int)) (0 : Int)).drop a0.length).length : Int))) then (((a0.take (List.replicate (Int.toNat (List.length a0 : Int)) (0 : Int)).length ++ (List.replicate (Int.toNat (List.length a0 : Int)) (0 : Int)).drop a0.length)[a1.toNat]?).bind fun x2 => (bif (decide (0 ≤ a1 ∧ a1 < ((a0.take (List.replicate (Int.toNat (List.length a0 : Int)) (0 : Int)).length ++ (List.replicate (Int.toNat (List.length a0 : Int)) (0 : Int)).drop a0.length).length : Int))) then (((a0.take (List.replicate (Int.toNat (List.length a0 : Int)) (0 : Int)).length ++ (List.replicate (Int.toNat (List.length a0 : Int)) (0 : Int)).drop a0.length)[a1.toNat]?).bind fun x3 => some ((a0.take (List.replicate (Int.toNat (List.length a0 : Int)) (0 : Int)).length ++ (List.replicate (Int.toNat (List.length a0 : Int)) (0 : Int)).drop a0.length).set a1.toNat a2)) else none)) else none) else none)))
-- lodger/cells.Swap
def cells_Swap (a0 : (List Int)) (a1 : Int) (a2 : Int) (a3 : Int) : Option ((List Int) × Bool) := ((cells_is a0 a1).bind fun r1 => (bif (not r1) then some (a0, false) else ((geti a0 a1).bind fun x2 => (bif (x2 != a2) then some (a0, false) else ((cells_Store a0 a1 a3).bind fun r3 => some (r3, true))))))
-- lodger/hint.Step
def hint_Step (a0 : Conf) (a1 : (List Int)) (a2 : Oq) : Option ((List Int) × Oq) := ((hint_where a0 a2).bind fun r1 => (bif (a2.phase == 4) then ((cells_Load a1 r1.1).bind fun r2 => ((bits_Has r2 r1.2).bind fun r3 => (bif (r3 == a2.full) then ((hint_done a0 ({ a2 with word := r2 } : Oq)).bind fun r4 => some (a1, r4)) else some (a1, ({ a2 with phase := 5, word := r2 } : Oq))))) else ((bits_Clear a2.word r1.2).bind fun r5 => (bif a2.full then ((bits_Set a2.word r1.2).bind fun r6 => ((cells_Swap a1 r1.1 a2.word r6).bind fun r7 => ((hint_done a0 ({ a2 with word := r6 } : Oq)).bind fun r8 => some (r7.1, r8)))) else ((cells_Swap a1 r1.1 a2.word r5).bind fun r9 => ((hint_done a0 ({ a2 with word := r5 } : Oq)).bind fun r10 => some (r9.1, r10)))))))
-- lodger/lodgerref02.Same
def lodgerref02_Same_s0 (k0 : (List Int) → (List Int) → Int → Option (Bool)) (s0 : (List Int)) (s1 : (List Int)) (s5 : Int) : Option (Bool) := (bif (decide (s5 < (List.length s0 : Int))) then ((geti s0 s5).bind fun x1 => ((geti s1 s5).bind fun x2 => (bif (x1 != x2) then some false else k0 s0 s1 (IntKind.wrap .i64 (s5 + 1))))) else some true)
def lodgerref02_Same_e (k0 : (List Int) → (List Int) → Int → Option (Bool)) (a0 : (List Int)) (a1 : (List Int)) : Option (Bool) := (bif ((List.length a0 : Int) != (List.length a1 : Int)) then some false else k0 a0 a1 0)
def lodgerref02_Same_l0 : Nat → (List Int) → (List Int) → Int → Option (Bool)
  | 0 => fun _ _ _ => none
  | n + 1 => lodgerref02_Same_s0 (lodgerref02_Same_l0 n)
theorem su0_lodgerref02_Same (n : Nat) : lodgerref02_Same_l0 (n + 1) = lodgerref02_Same_s0 (lodgerref02_Same_l0 n) := rfl
def lodgerref02_Same_n (n : Nat) (a0 : (List Int)) (a1 : (List Int)) : Option (Bool) := lodgerref02_Same_e (lodgerref02_Same_l0 n) a0 a1
def lodgerref02_Same (a0 : (List Int)) (a1 : (List Int)) : Option (Bool) := lodgerref02_Same_n big a0 a1
theorem def_lodgerref02_Same (a0 : (List Int)) (a1 : (List Int)) : lodgerref02_Same a0 a1 = lodgerref02_Same_n big a0 a1 := rfl
-- lodger/lodgerlaw08.awake
def lodgerlaw08_awake_s0 (k0 : (List Int) → Int → Int → Conf → Oq → Option (Bool)) (s4 : (List Int)) (s5 : Int) (s6 : Int) (m0 : Conf) (m1 : Oq) : Option (Bool) := (bif (decide (s6 < 6)) then (bif (m1.phase != 0) then ((hint_Step m0 s4 m1).bind fun r1 => k0 r1.1 (IntKind.wrap .i64 (s5 + 1)) (IntKind.wrap .i64 (s6 + 1)) m0 r1.2) else ((hint_Find 5 0 3).bind fun r2 => ((hint_Find 5 2 3).bind fun r3 => ((hint_Goes m0 (⟨⟨4, 0, ([0, 3] : List Int)⟩, ⟨0, 0, false, [], []⟩, 0, 0, 0, 0, 0, 0, true, [], 0, 0, 0, 0⟩ : Oq)).bind fun r4 => (bif (s5 == 4) then ((lodgerref02_Same s4 ([4294967295, 18446744073709551615, 18446744073709551615] : List Int)).bind fun r5 => (bif r5 then (bif (r2.1 == 1) then (bif r2.2 then (bif (not r3.2) then (bif (r4.item == 1) then (bif (r4.phase == 8) then (bif (r4.bit == 3) then some (not r4.full) else some false) else some false) else some false) else some false) else some false) else some false) else some false)) else some false))))) else ((hint_Find 5 0 3).bind fun r6 => ((hint_Find 5 2 3).bind fun r7 => ((hint_Goes m0 (⟨⟨4, 0, ([0, 3] : List Int)⟩, ⟨0, 0, false, [], []⟩, 0, 0, 0, 0, 0, 0, true, [], 0, 0, 0, 0⟩ : Oq)).bind fun r8 => (bif (s5 == 4) then ((lodgerref02_Same s4 ([4294967295, 18446744073709551615, 18446744073709551615] : List Int)).bind fun r9 => (bif r9 then (bif (r6.1 == 1) then (bif r6.2 then (bif (not r7.2) then (bif (r8.item == 1) then (bif (r8.phase == 8) then (bif (r8.bit == 3) then some (not r8.full) else some false) else some false) else some false) else some false) else some false) else some false) else some false)) else some false)))))
def lodgerlaw08_awake_e (k0 : (List Int) → Int → Int → Conf → Oq → Option (Bool))  : Option (Bool) := k0 ([4294967295, 18446744073709551614, 18446744073709551614] : List Int) 0 0 (⟨⟨0, 30⟩, [], 1, 1, 1, 1⟩ : Conf) (⟨⟨0, 0, []⟩, ⟨0, 0, false, [], []⟩, 4, 0, 0, 0, 0, 0, true, [], 0, 0, 0, 0⟩ : Oq)
def lodgerlaw08_awake_l0 : Nat → (List Int) → Int → Int → Conf → Oq → Option (Bool)
  | 0 => fun _ _ _ _ _ => none
  | n + 1 => lodgerlaw08_awake_s0 (lodgerlaw08_awake_l0 n)
theorem su0_lodgerlaw08_awake (n : Nat) : lodgerlaw08_awake_l0 (n + 1) = lodgerlaw08_awake_s0 (lodgerlaw08_awake_l0 n) := rfl
def lodgerlaw08_awake_n (n : Nat)  : Option (Bool) := lodgerlaw08_awake_e (lodgerlaw08_awake_l0 n) 
def lodgerlaw08_awake  : Option (Bool) := lodgerlaw08_awake_n big 
theorem def_lodgerlaw08_awake  : lodgerlaw08_awake  = lodgerlaw08_awake_n big  := rfl
-- lodger/lodgerref04.Many
def lodgerref04_Many_s0 (k0 : Int → Int → Option (Int)) (s3 : Int) (s4 : Int) : Option (Int) := (bif (decide (s4 < 32)) then k0 (IntKind.wrap .i64 (2 * s3)) (IntKind.wrap .i64 (s4 + 1)) else some s3)
def lodgerref04_Many_e (k0 : Int → Int → Option (Int)) (a0 : Int) : Option (Int) := k0 1 a0
def lodgerref04_Many_l0 : Nat → Int → Int → Option (Int)
  | 0 => fun _ _ => none
  | n + 1 => lodgerref04_Many_s0 (lodgerref04_Many_l0 n)
theorem su0_lodgerref04_Many (n : Nat) : lodgerref04_Many_l0 (n + 1) = lodgerref04_Many_s0 (lodgerref04_Many_l0 n) := rfl
def lodgerref04_Many_n (n : Nat) (a0 : Int) : Option (Int) := lodgerref04_Many_e (lodgerref04_Many_l0 n) a0
def lodgerref04_Many (a0 : Int) : Option (Int) := lodgerref04_Many_n big a0
theorem def_lodgerref04_Many (a0 : Int) : lodgerref04_Many a0 = lodgerref04_Many_n big a0 := rfl
-- lodger/lodgerref05.Many
def lodgerref05_Many (a0 : Block) : Option (Int) := ((lodgerref04_Many a0.pre).bind fun r1 => some r1)
-- lodger/lodgerref04.May
def lodgerref04_May (a0 : Block) : Option (Bool) := (bif (decide (a0.pre ≥ 16)) then (bif (decide (a0.pre ≤ 32)) then ((lodgerref04_Many a0.pre).bind fun r1 => (bif (r1 == 0) then none else some ((Int.tmod (IntKind.wrap .i64 a0.base) r1) == 0))) else some false) else some false)
-- lodger/lodgerref05.May
def lodgerref05_May_s0 (k0 : Int → Conf → Option (Bool)) (s3 : Int) (m0 : Conf) : Option (Bool) := (bif (decide (s3 < (List.length m0.held : Int))) then ((geti m0.held s3).bind fun x2 => (bif (decide (x2 < 0)) then some false else ((geti m0.held s3).bind fun x3 => ((lodgerref05_Many m0.block).bind fun r4 => (bif (decide (x3 ≥ r4)) then some false else (bif (decide (s3 > 0)) then ((geti m0.held s3).bind fun x5 => ((geti m0.held (IntKind.wrap .i64 (s3 - 1))).bind fun x6 => (bif (decide (x5 ≤ x6)) then some false else k0 (IntKind.wrap .i64 (s3 + 1)) m0))) else k0 (IntKind.wrap .i64 (s3 + 1)) m0)))))) else some true)
def lodgerref05_May_e (k0 : Int → Conf → Option (Bool)) (a0 : Conf) : Option (Bool) := ((lodgerref04_May a0.block).bind fun r1 => (bif (not r1) then some false else (bif (decide ((List.length a0.held : Int) > 64)) then some false else (bif (decide (a0.shards < 1)) then some false else (bif (decide (a0.shards > 64)) then some false else (bif (decide (a0.workers < 1)) then some false else (bif (decide (a0.workers > 64)) then some false else (bif (decide (a0.queue < 1)) then some false else (bif (decide (a0.queue > 64)) then some false else (bif (decide (a0.tries < 1)) then some false else (bif (decide (a0.tries > 8)) then some false else k0 0 a0)))))))))))
def lodgerref05_May_l0 : Nat → Int → Conf → Option (Bool)
  | 0 => fun _ _ => none
  | n + 1 => lodgerref05_May_s0 (lodgerref05_May_l0 n)
theorem su0_lodgerref05_May (n : Nat) : lodgerref05_May_l0 (n + 1) = lodgerref05_May_s0 (lodgerref05_May_l0 n) := rfl
def lodgerref05_May_n (n : Nat) (a0 : Conf) : Option (Bool) := lodgerref05_May_e (lodgerref05_May_l0 n) a0
def lodgerref05_May (a0 : Conf) : Option (Bool) := lodgerref05_May_n big a0
theorem def_lodgerref05_May (a0 : Conf) : lodgerref05_May a0 = lodgerref05_May_n big a0 := rfl
-- lodger/lodgerref06.Leaves
def lodgerref06_Leaves_s0 (k0 : Int → Int → Option (Int)) (s0 : Int) (s3 : Int) : Option (Int) := (bif (decide ((IntKind.wrap .i64 (32 * s3)) < s0)) then k0 s0 (IntKind.wrap .i64 (s3 + 1)) else some s3)
def lodgerref06_Leaves_e (k0 : Int → Int → Option (Int)) (a0 : Int) : Option (Int) := k0 a0 0
def lodgerref06_Leaves_l0 : Nat → Int → Int → Option (Int)
  | 0 => fun _ _ => none
  | n + 1 => lodgerref06_Leaves_s0 (lodgerref06_Leaves_l0 n)
theorem su0_lodgerref06_Leaves (n : Nat) : lodgerref06_Leaves_l0 (n + 1) = lodgerref06_Leaves_s0 (lodgerref06_Leaves_l0 n) := rfl
def lodgerref06_Leaves_n (n : Nat) (a0 : Int) : Option (Int) := lodgerref06_Leaves_e (lodgerref06_Leaves_l0 n) a0
def lodgerref06_Leaves (a0 : Int) : Option (Int) := lodgerref06_Leaves_n big a0
theorem def_lodgerref06_Leaves (a0 : Int) : lodgerref06_Leaves a0 = lodgerref06_Leaves_n big a0 := rfl
-- lodger/lodgerref06.Tops
def lodgerref06_Tops_s0 (k0 : Int → Int → Option (Int)) (s0 : Int) (s3 : Int) : Option (Int) := ((lodgerref06_Leaves s0).bind fun r1 => (bif (decide ((IntKind.wrap .i64 (64 * s3)) < r1)) then k0 s0 (IntKind.wrap .i64 (s3 + 1)) else some s3))
def lodgerref06_Tops_e (k0 : Int → Int → Option (Int)) (a0 : Int) : Option (Int) := k0 a0 0
def lodgerref06_Tops_l0 : Nat → Int → Int → Option (Int)
  | 0 => fun _ _ => none
  | n + 1 => lodgerref06_Tops_s0 (lodgerref06_Tops_l0 n)
theorem su0_lodgerref06_Tops (n : Nat) : lodgerref06_Tops_l0 (n + 1) = lodgerref06_Tops_s0 (lodgerref06_Tops_l0 n) := rfl
def lodgerref06_Tops_n (n : Nat) (a0 : Int) : Option (Int) := lodgerref06_Tops_e (lodgerref06_Tops_l0 n) a0
def lodgerref06_Tops (a0 : Int) : Option (Int) := lodgerref06_Tops_n big a0
theorem def_lodgerref06_Tops (a0 : Int) : lodgerref06_Tops a0 = lodgerref06_Tops_n big a0 := rfl
-- lodger/lodgerref06.Cells
def lodgerref06_Cells (a0 : Int) : Option (Int) := ((lodgerref06_Leaves a0).bind fun r1 => ((lodgerref06_Tops a0).bind fun r2 => some (IntKind.wrap .i64 ((IntKind.wrap .i64 (r1 + r2)) + 1))))
-- lodger/lodgerref08.Fits
def lodgerref08_Fits (a0 : Conf) (a1 : (List Int)) : Option (Bool) := ((lodgerref05_May a0).bind fun r1 => (bif r1 then ((lodgerref05_Many a0.block).bind fun r2 => (bif (decide (r2 ≤ 4096)) then ((lodgerref05_Many a0.block).bind fun r3 => ((lodgerref06_Cells r3).bind fun r4 => some ((List.length a1 : Int) == r4))) else some false)) else some false))
-- lodger/lodgerref05.Offset
def lodgerref05_Offset (a0 : Block) (a1 : Int) : Option (Int × Int) := (bif (decide (a1 < a0.base)) then some (0, 3) else ((lodgerref05_Many a0).bind fun r1 => (bif (decide ((IntKind.wrap .i64 (IntKind.wrap .u32 (a1 - a0.base))) ≥ r1)) then some (0, 3) else some ((IntKind.wrap .i64 (IntKind.wrap .u32 (a1 - a0.base))), 0))))
-- lodger/lodgerref08.Whole
def lodgerref08_Whole_s0 (k0 : Int → Conf → Oq → Option (Bool)) (s5 : Int) (m0 : Conf) (m1 : Oq) : Option (Bool) := (bif (decide (s5 < (List.length m1.ask.addrs : Int))) then ((geti m1.ask.addrs s5).bind fun x3 => ((lodgerref05_Offset m0.block x3).bind fun r4 => (bif (r4.2 != 0) then some false else k0 (IntKind.wrap .i64 (s5 + 1)) m0 m1))) else some true)
def lodgerref08_Whole_e (k0 : Int → Conf → Oq → Option (Bool)) (a0 : Conf) (a1 : Oq) : Option (Bool) := (bif (decide (a1.leaf < 0)) then some false else ((lodgerref05_Many a0.block).bind fun r1 => ((lodgerref06_Leaves r1).bind fun r2 => (bif (decide (a1.leaf ≥ r2)) then some false else (bif (decide (a1.item < 0)) then some false else (bif (decide (a1.item > 1000)) then some false else (bif (decide (a1.at_ < 0)) then some false else (bif (decide (a1.at_ > 1)) then some false else (bif (decide ((List.length a1.ask.addrs : Int) > 100)) then some false else (bif (decide ((List.length a1.seen : Int) > 300)) then some false else (bif (decide ((List.length a1.answer.addrs : Int) > 300)) then some false else (bif (decide ((List.length a1.answer.errs : Int) > 300)) then some false else k0 0 a0 a1))))))))))))
def lodgerref08_Whole_l0 : Nat → Int → Conf → Oq → Option (Bool)
  | 0 => fun _ _ _ => none
  | n + 1 => lodgerref08_Whole_s0 (lodgerref08_Whole_l0 n)
theorem su0_lodgerref08_Whole (n : Nat) : lodgerref08_Whole_l0 (n + 1) = lodgerref08_Whole_s0 (lodgerref08_Whole_l0 n) := rfl
def lodgerref08_Whole_n (n : Nat) (a0 : Conf) (a1 : Oq) : Option (Bool) := lodgerref08_Whole_e (lodgerref08_Whole_l0 n) a0 a1
def lodgerref08_Whole (a0 : Conf) (a1 : Oq) : Option (Bool) := lodgerref08_Whole_n big a0 a1
theorem def_lodgerref08_Whole (a0 : Conf) (a1 : Oq) : lodgerref08_Whole a0 a1 = lodgerref08_Whole_n big a0 a1 := rfl
-- lodger/lodgerref01.Pow
def lodgerref01_Pow_s0 (k0 : Int → Int → Int → Option (Int)) (s0 : Int) (s3 : Int) (s4 : Int) : Option (Int) := (bif (decide (s4 < s0)) then k0 s0 (IntKind.wrap .u64 (s3 * 2)) (IntKind.wrap .i64 (s4 + 1)) else some s3)
def lodgerref01_Pow_e (k0 : Int → Int → Int → Option (Int)) (a0 : Int) : Option (Int) := k0 a0 1 0
def lodgerref01_Pow_l0 : Nat → Int → Int → Int → Option (Int)
  | 0 => fun _ _ _ => none
  | n + 1 => lodgerref01_Pow_s0 (lodgerref01_Pow_l0 n)
theorem su0_lodgerref01_Pow (n : Nat) : lodgerref01_Pow_l0 (n + 1) = lodgerref01_Pow_s0 (lodgerref01_Pow_l0 n) := rfl
def lodgerref01_Pow_n (n : Nat) (a0 : Int) : Option (Int) := lodgerref01_Pow_e (lodgerref01_Pow_l0 n) a0
def lodgerref01_Pow (a0 : Int) : Option (Int) := lodgerref01_Pow_n big a0
theorem def_lodgerref01_Pow (a0 : Int) : lodgerref01_Pow a0 = lodgerref01_Pow_n big a0 := rfl
-- lodger/lodgerref01.Has
def lodgerref01_Has (a0 : Int) (a1 : Int) : Option (Bool) := ((lodgerref01_Pow a1).bind fun r1 => (bif (r1 == 0) then none else some ((Int.tmod (IntKind.wrap .u64 (Int.tdiv a0 r1)) 2) == 1)))
-- lodger/lodgerref08.Find
def lodgerref08_Find_s0 (k0 : Int → Int → Int → Option (Int × Bool)) (s0 : Int) (s2 : Int) (s8 : Int) : Option (Int × Bool) := (bif (decide (s8 < s2)) then ((lodgerref01_Has s0 s8).bind fun r1 => (bif (not r1) then some (s8, true) else k0 s0 s2 (IntKind.wrap .i64 (s8 + 1)))) else some (0, false))
def lodgerref08_Find_e (k0 : Int → Int → Int → Option (Int × Bool)) (a0 : Int) (a1 : Int) (a2 : Int) : Option (Int × Bool) := k0 a0 a2 a1
def lodgerref08_Find_l0 : Nat → Int → Int → Int → Option (Int × Bool)
  | 0 => fun _ _ _ => none
  | n + 1 => lodgerref08_Find_s0 (lodgerref08_Find_l0 n)
theorem su0_lodgerref08_Find (n : Nat) : lodgerref08_Find_l0 (n + 1) = lodgerref08_Find_s0 (lodgerref08_Find_l0 n) := rfl
def lodgerref08_Find_n (n : Nat) (a0 : Int) (a1 : Int) (a2 : Int) : Option (Int × Bool) := lodgerref08_Find_e (lodgerref08_Find_l0 n) a0 a1 a2
def lodgerref08_Find (a0 : Int) (a1 : Int) (a2 : Int) : Option (Int × Bool) := lodgerref08_Find_n big a0 a1 a2
theorem def_lodgerref08_Find (a0 : Int) (a1 : Int) (a2 : Int) : lodgerref08_Find a0 a1 a2 = lodgerref08_Find_n big a0 a1 a2 := rfl
-- lodger/lodgerref08.Addrs
def lodgerref08_Addrs_s0 (k0 : (List Int) → (List Int) → Int → Option (Bool)) (s0 : (List Int)) (s1 : (List Int)) (s5 : Int) : Option (Bool) := (bif (decide (s5 < (List.length s0 : Int))) then ((geti s0 s5).bind fun x1 => ((geti s1 s5).bind fun x2 => (bif (x1 != x2) then some false else k0 s0 s1 (IntKind.wrap .i64 (s5 + 1))))) else some true)
def lodgerref08_Addrs_e (k0 : (List Int) → (List Int) → Int → Option (Bool)) (a0 : (List Int)) (a1 : (List Int)) : Option (Bool) := (bif ((List.length a0 : Int) != (List.length a1 : Int)) then some false else k0 a0 a1 0)
def lodgerref08_Addrs_l0 : Nat → (List Int) → (List Int) → Int → Option (Bool)
  | 0 => fun _ _ _ => none
  | n + 1 => lodgerref08_Addrs_s0 (lodgerref08_Addrs_l0 n)
theorem su0_lodgerref08_Addrs (n : Nat) : lodgerref08_Addrs_l0 (n + 1) = lodgerref08_Addrs_s0 (lodgerref08_Addrs_l0 n) := rfl
def lodgerref08_Addrs_n (n : Nat) (a0 : (List Int)) (a1 : (List Int)) : Option (Bool) := lodgerref08_Addrs_e (lodgerref08_Addrs_l0 n) a0 a1
def lodgerref08_Addrs (a0 : (List Int)) (a1 : (List Int)) : Option (Bool) := lodgerref08_Addrs_n big a0 a1
theorem def_lodgerref08_Addrs (a0 : (List Int)) (a1 : (List Int)) : lodgerref08_Addrs a0 a1 = lodgerref08_Addrs_n big a0 a1 := rfl
-- lodger/lodgerref08.Asks
def lodgerref08_Asks (a0 : Ask) (a1 : Ask) : Option (Bool) := (bif (a0.kind == a1.kind) then (bif (a0.addr == a1.addr) then ((lodgerref08_Addrs a0.addrs a1.addrs).bind fun r1 => some r1) else some false) else some false)
-- lodger/lodgerref08.Errs
def lodgerref08_Errs_s0 (k0 : (List Int) → (List Int) → Int → Option (Bool)) (s0 : (List Int)) (s1 : (List Int)) (s5 : Int) : Option (Bool) := (bif (decide (s5 < (List.length s0 : Int))) then ((geti s0 s5).bind fun x1 => ((geti s1 s5).bind fun x2 => (bif (x1 != x2) then some false else k0 s0 s1 (IntKind.wrap .i64 (s5 + 1))))) else some true)
def lodgerref08_Errs_e (k0 : (List Int) → (List Int) → Int → Option (Bool)) (a0 : (List Int)) (a1 : (List Int)) : Option (Bool) := (bif ((List.length a0 : Int) != (List.length a1 : Int)) then some false else k0 a0 a1 0)
def lodgerref08_Errs_l0 : Nat → (List Int) → (List Int) → Int → Option (Bool)
  | 0 => fun _ _ _ => none
  | n + 1 => lodgerref08_Errs_s0 (lodgerref08_Errs_l0 n)
theorem su0_lodgerref08_Errs (n : Nat) : lodgerref08_Errs_l0 (n + 1) = lodgerref08_Errs_s0 (lodgerref08_Errs_l0 n) := rfl
def lodgerref08_Errs_n (n : Nat) (a0 : (List Int)) (a1 : (List Int)) : Option (Bool) := lodgerref08_Errs_e (lodgerref08_Errs_l0 n) a0 a1
def lodgerref08_Errs (a0 : (List Int)) (a1 : (List Int)) : Option (Bool) := lodgerref08_Errs_n big a0 a1
theorem def_lodgerref08_Errs (a0 : (List Int)) (a1 : (List Int)) : lodgerref08_Errs a0 a1 = lodgerref08_Errs_n big a0 a1 := rfl
-- lodger/lodgerref08.Answers
def lodgerref08_Answers (a0 : Answer) (a1 : Answer) : Option (Bool) := (bif (a0.err == a1.err) then (bif (a0.addr == a1.addr) then (bif (a0.used == a1.used) then ((lodgerref08_Addrs a0.addrs a1.addrs).bind fun r1 => (bif r1 then ((lodgerref08_Errs a0.errs a1.errs).bind fun r2 => some r2) else some false)) else some false) else some false) else some false)
-- lodger/lodgerref08.Same
def lodgerref08_Same (a0 : Oq) (a1 : Oq) : Option (Bool) := ((lodgerref08_Asks a0.ask a1.ask).bind fun r1 => (bif r1 then ((lodgerref08_Answers a0.answer a1.answer).bind fun r2 => (bif r2 then (bif (a0.phase == a1.phase) then (bif (a0.shard == a1.shard) then (bif (a0.sought == a1.sought) then (bif (a0.leaf == a1.leaf) then (bif (a0.bit == a1.bit) then (bif (a0.word == a1.word) then (bif (a0.full == a1.full) then ((lodgerref02_Same a0.seen a1.seen).bind fun r3 => (bif r3 then (bif (a0.at_ == a1.at_) then (bif (a0.tries == a1.tries) then (bif (a0.item == a1.item) then some (a0.stamp == a1.stamp) else some false) else some false) else some false) else some false)) else some false) else some false) else some false) else some false) else some false) else some false) else some false) else some false)) else some false))
-- lodger/lodgerref08.Goes
def lodgerref08_Goes (a0 : Conf) (a1 : Oq) : Option (Oq) := (bif (a1.ask.kind == 4) then (bif (decide ((IntKind.wrap .i64 (a1.item + 1)) < (List.length a1.ask.addrs : Int))) then ((geti a1.ask.addrs (IntKind.wrap .i64 (a1.item + 1))).bind fun x1 => ((lodgerref05_Offset a0.block x1).bind fun r2 => some ({ a1 with phase := 8, leaf := (IntKind.wrap .i64 (Int.tdiv r2.1 32)), bit := (Int.tmod r2.1 32), word := 0, full := false, at_ := 0, item := (IntKind.wrap .i64 (a1.item + 1)) } : Oq))) else some ({ a1 with phase := 0, word := 0, full := false, at_ := 0 } : Oq)) else some ({ a1 with phase := 0, word := 0, full := false, at_ := 0 } : Oq))
-- lodger/lodgerref06.Top
def lodgerref06_Top (a0 : Int) (a1 : Int) : Option (Int × Int) := ((lodgerref06_Leaves a0).bind fun r1 => some ((IntKind.wrap .i64 (r1 + (IntKind.wrap .i64 (Int.tdiv a1 64)))), (IntKind.wrap .i64 (a1 - (IntKind.wrap .i64 (64 * (IntKind.wrap .i64 (Int.tdiv a1 64))))))))
-- lodger/lodgerref06.Root
def lodgerref06_Root (a0 : Int) (a1 : Int) : Option (Int × Int) := ((lodgerref06_Leaves a0).bind fun r1 => ((lodgerref06_Tops a0).bind fun r2 => some ((IntKind.wrap .i64 (r1 + r2)), (IntKind.wrap .i64 (Int.tdiv a1 64)))))
-- lodger/lodgerref01.Clear
def lodgerref01_Clear (a0 : Int) (a1 : Int) : Option (Int) := ((lodgerref01_Has a0 a1).bind fun r1 => (bif r1 then ((lodgerref01_Pow a1).bind fun r2 => some (IntKind.wrap .u64 (a0 - r2))) else some a0))
-- lodger/lodgerref01.Set
def lodgerref01_Set (a0 : Int) (a1 : Int) : Option (Int) := ((lodgerref01_Has a0 a1).bind fun r1 => (bif r1 then some a0 else ((lodgerref01_Pow a1).bind fun r2 => some (IntKind.wrap .u64 (a0 + r2)))))
-- lodger/lodgerref02.Set
def lodgerref02_Set_s0 (k0 : Int → Int → Int → (List Int) → Option ((List Int))) (s1 : Int) (s2 : Int) (s8 : Int) (m0 : (List Int)) : Option ((List Int)) := (bif (decide (s8 < (List.length m0 : Int))) then (bif (s8 == s1) then (bif (decide (0 ≤ s8 ∧ s8 < (m0.length : Int))) then ((m0[s8.toNat]?).bind fun x1 => k0 s1 s2 (IntKind.wrap .i64 (s8 + 1)) (m0.set s8.toNat s2)) else none) else k0 s1 s2 (IntKind.wrap .i64 (s8 + 1)) m0) else some m0)
def lodgerref02_Set_e (k0 : Int → Int → Int → (List Int) → Option ((List Int))) (a0 : (List Int)) (a1 : Int) (a2 : Int) : Option ((List Int)) := (bif (decide (a0.length ≤ maxList)) then k0 a1 a2 0 a0 else none)
def lodgerref02_Set_l0 : Nat → Int → Int → Int → (List Int) → Option ((List Int))
  | 0 => fun _ _ _ _ => none
  | n + 1 => lodgerref02_Set_s0 (lodgerref02_Set_l0 n)
theorem su0_lodgerref02_Set (n : Nat) : lodgerref02_Set_l0 (n + 1) = lodgerref02_Set_s0 (lodgerref02_Set_l0 n) := rfl
def lodgerref02_Set_n (n : Nat) (a0 : (List Int)) (a1 : Int) (a2 : Int) : Option ((List Int)) := lodgerref02_Set_e (lodgerref02_Set_l0 n) a0 a1 a2
def lodgerref02_Set (a0 : (List Int)) (a1 : Int) (a2 : Int) : Option ((List Int)) := lodgerref02_Set_n big a0 a1 a2
theorem def_lodgerref02_Set (a0 : (List Int)) (a1 : Int) (a2 : Int) : lodgerref02_Set a0 a1 a2 = lodgerref02_Set_n big a0 a1 a2 := rfl
-- lodger/lodgerref08.Step
def lodgerref08_Step (a0 : Conf) (a1 : (List Int)) (a2 : Oq) : Option ((List Int) × Oq) := ((lodgerref05_Many a0.block).bind fun r1 => ((lodgerref06_Top r1 a2.leaf).bind fun r2 => (bif (a2.at_ == 1) then ((lodgerref06_Root r1 a2.leaf).bind fun r3 => (bif (a2.phase == 4) then ((geti a1 r3.1).bind fun x4 => ((lodgerref01_Has x4 r3.2).bind fun r5 => (bif (!(r5 == a2.full)) then some (a1, ({ a2 with phase := 5, word := x4 } : Oq)) else (bif (a2.at_ == 1) then ((lodgerref08_Goes a0 ({ a2 with word := x4 } : Oq)).bind fun r6 => some (a1, r6)) else (bif a2.full then (bif (x4 != 18446744073709551615) then ((lodgerref08_Goes a0 ({ a2 with word := x4 } : Oq)).bind fun r7 => some (a1, r7)) else some (a1, ({ a2 with phase := 4, word := x4, at_ := 1 } : Oq))) else some (a1, ({ a2 with phase := 4, word := x4, at_ := 1 } : Oq))))))) else ((lodgerref01_Clear a2.word r3.2).bind fun r8 => (bif a2.full then ((lodgerref01_Set a2.word r3.2).bind fun r9 => ((geti a1 r3.1).bind fun x10 => (bif (x10 == a2.word) then ((lodgerref02_Set a1 r3.1 r9).bind fun r11 => (bif (a2.at_ == 1) then ((lodgerref08_Goes a0 ({ a2 with word := r9 } : Oq)).bind fun r12 => some (r11, r12)) else (bif a2.full then (bif (r9 != 18446744073709551615) then ((lodgerref08_Goes a0 ({ a2 with word := r9 } : Oq)).bind fun r13 => some (r11, r13)) else some (r11, ({ a2 with phase := 4, word := r9, at_ := 1 } : Oq))) else some (r11, ({ a2 with phase := 4, word := r9, at_ := 1 } : Oq))))) else (bif (a2.at_ == 1) then ((lodgerref08_Goes a0 ({ a2 with word := r9 } : Oq)).bind fun r14 => some (a1, r14)) else (bif a2.full then (bif (r9 != 18446744073709551615) then ((lodgerref08_Goes a0 ({ a2 with word := r9 } : Oq)).bind fun r15 => some (a1, r15)) else some (a1, ({ a2 with phase := 4, word := r9, at_ := 1 } : Oq))) else some (a1, ({ a2 with phase := 4, word := r9, at_ := 1 } : Oq))))))) else ((geti a1 r3.1).bind fun x16 => (bif (x16 == a2.word) then ((lodgerref02_Set a1 r3.1 r8).bind fun r17 => (bif (a2.at_ == 1) then ((lodgerref08_Goes a0 ({ a2 with word := r8 } : Oq)).bind fun r18 => some (r17, r18)) else (bif a2.full then (bif (r8 != 18446744073709551615) then ((lodgerref08_Goes a0 ({ a2 with word := r8 } : Oq)).bind fun r19 => some (r17, r19)) else some (r17, ({ a2 with phase := 4, word := r8, at_ := 1 } : Oq))) else some (r17, ({ a2 with phase := 4, word := r8, at_ := 1 } : Oq))))) else (bif (a2.at_ == 1) then ((lodgerref08_Goes a0 ({ a2 with word := r8 } : Oq)).bind fun r20 => some (a1, r20)) else (bif a2.full then (bif (r8 != 18446744073709551615) then ((lodgerref08_Goes a0 ({ a2 with word := r8 } : Oq)).bind fun r21 => some (a1, r21)) else some (a1, ({ a2 with phase := 4, word := r8, at_ := 1 } : Oq))) else some (a1, ({ a2 with phase := 4, word := r8, at_ := 1 } : Oq)))))))))) else (bif (a2.phase == 4) then ((geti a1 r2.1).bind fun x22 => ((lodgerref01_Has x22 r2.2).bind fun r23 => (bif (!(r23 == a2.full)) then some (a1, ({ a2 with phase := 5, word := x22 } : Oq)) else (bif (a2.at_ == 1) then ((lodgerref08_Goes a0 ({ a2 with word := x22 } : Oq)).bind fun r24 => some (a1, r24)) else (bif a2.full then (bif (x22 != 18446744073709551615) then ((lodgerref08_Goes a0 ({ a2 with word := x22 } : Oq)).bind fun r25 => some (a1, r25)) else some (a1, ({ a2 with phase := 4, word := x22, at_ := 1 } : Oq))) else some (a1, ({ a2 with phase := 4, word := x22, at_ := 1 } : Oq))))))) else ((lodgerref01_Clear a2.word r2.2).bind fun r26 => (bif a2.full then ((lodgerref01_Set a2.word r2.2).bind fun r27 => ((geti a1 r2.1).bind fun x28 => (bif (x28 == a2.word) then ((lodgerref02_Set a1 r2.1 r27).bind fun r29 => (bif (a2.at_ == 1) then ((lodgerref08_Goes a0 ({ a2 with word := r27 } : Oq)).bind fun r30 => some (r29, r30)) else (bif a2.full then (bif (r27 != 18446744073709551615) then ((lodgerref08_Goes a0 ({ a2 with word := r27 } : Oq)).bind fun r31 => some (r29, r31)) else some (r29, ({ a2 with phase := 4, word := r27, at_ := 1 } : Oq))) else some (r29, ({ a2 with phase := 4, word := r27, at_ := 1 } : Oq))))) else (bif (a2.at_ == 1) then ((lodgerref08_Goes a0 ({ a2 with word := r27 } : Oq)).bind fun r32 => some (a1, r32)) else (bif a2.full then (bif (r27 != 18446744073709551615) then ((lodgerref08_Goes a0 ({ a2 with word := r27 } : Oq)).bind fun r33 => some (a1, r33)) else some (a1, ({ a2 with phase := 4, word := r27, at_ := 1 } : Oq))) else some (a1, ({ a2 with phase := 4, word := r27, at_ := 1 } : Oq))))))) else ((geti a1 r2.1).bind fun x34 => (bif (x34 == a2.word) then ((lodgerref02_Set a1 r2.1 r26).bind fun r35 => (bif (a2.at_ == 1) then ((lodgerref08_Goes a0 ({ a2 with word := r26 } : Oq)).bind fun r36 => some (r35, r36)) else (bif a2.full then (bif (r26 != 18446744073709551615) then ((lodgerref08_Goes a0 ({ a2 with word := r26 } : Oq)).bind fun r37 => some (r35, r37)) else some (r35, ({ a2 with phase := 4, word := r26, at_ := 1 } : Oq))) else some (r35, ({ a2 with phase := 4, word := r26, at_ := 1 } : Oq))))) else (bif (a2.at_ == 1) then ((lodgerref08_Goes a0 ({ a2 with word := r26 } : Oq)).bind fun r38 => some (a1, r38)) else (bif a2.full then (bif (r26 != 18446744073709551615) then ((lodgerref08_Goes a0 ({ a2 with word := r26 } : Oq)).bind fun r39 => some (a1, r39)) else some (a1, ({ a2 with phase := 4, word := r26, at_ := 1 } : Oq))) else some (a1, ({ a2 with phase := 4, word := r26, at_ := 1 } : Oq))))))))))))
-- lodger/lodgerlaw08.HintSteps
def lodgerlaw08_HintSteps (a0 : Conf) (a1 : (List Int)) (a2 : Oq) (a3 : Int) (a4 : Int) : Option (Bool) := (lodgerlaw08_awake.bind fun r1 => (bif (not r1) then (lodgerlaw08_awake.bind fun r2 => some r2) else ((lodgerref08_Fits a0 a1).bind fun r3 => (bif (not r3) then (lodgerlaw08_awake.bind fun r4 => some r4) else ((lodgerref08_Whole a0 a2).bind fun r5 => (bif (not r5) then (lodgerlaw08_awake.bind fun r6 => some r6) else ((hint_Find a2.word (IntKind.wrap .i64 (Int.tmod a3 65)) (IntKind.wrap .i64 (Int.tmod a4 65))).bind fun r7 => ((lodgerref08_Find a2.word (IntKind.wrap .i64 (Int.tmod a3 65)) (IntKind.wrap .i64 (Int.tmod a4 65))).bind fun r8 => (bif (r7.1 != r8.1) then some false else (bif (!(r7.2 == r8.2)) then some false else ((hint_Goes a0 a2).bind fun r9 => ((lodgerref08_Goes a0 a2).bind fun r10 => ((lodgerref08_Same r9 r10).bind fun r11 => (bif (not r11) then some false else (bif (a2.phase != 4) then (bif (a2.phase != 5) then some true else ((hint_Step a0 a1 a2).bind fun r12 => ((lodgerref08_Step a0 a1 a2).bind fun r13 => ((lodgerref02_Same r12.1 r13.1).bind fun r14 => (bif r14 then ((lodgerref08_Same r12.2 r13.2).bind fun r15 => some r15) else some false))))) else ((hint_Step a0 a1 a2).bind fun r16 => ((lodgerref08_Step a0 a1 a2).bind fun r17 => ((lodgerref02_Same r16.1 r17.1).bind fun r18 => (bif r18 then ((lodgerref08_Same r16.2 r17.2).bind fun r19 => some r19) else some false)))))))))))))))))))
-- lodger/lodgerlaw08.HintOnly
def lodgerlaw08_HintOnly_s0 (k0 : (List Int) → Bool → Int → Int → Int → Int → Bool → (List Int) → Int → Conf → Oq → Option (Bool)) (k1 : (List Int) → Int → Int → Int → Int → (List Int) → Int → Option (Bool)) (s1 : (List Int)) (s3 : Bool) (s11 : Int) (s12 : Int) (s13 : Int) (s14 : Int) (s15 : Bool) (s17 : (List Int)) (s18 : Int) (m0 : Conf) (m1 : Oq) : Option (Bool) := (bif (decide (s18 < 4)) then (bif (m1.phase != 0) then ((hint_Step m0 s17 m1).bind fun r12 => k0 s1 s3 s11 s12 s13 s14 s15 r12.1 (IntKind.wrap .i64 (s18 + 1)) m0 r12.2) else (bif (m1.phase != 0) then some false else (bif ((List.length s17 : Int) != (List.length s1 : Int)) then some false else ((geti s17 s11).bind fun x13 => ((lodgerref01_Has x13 s12).bind fun r14 => (bif (!(r14 == s3)) then some false else (bif s15 then ((geti s17 s13).bind fun x15 => ((lodgerref01_Has x15 s14).bind fun r16 => ((geti s17 s11).bind fun x17 => (bif (!(r16 == (x17 == 18446744073709551615))) then some false else k1 s1 s11 s12 s13 s14 s17 0)))) else k1 s1 s11 s12 s13 s14 s17 0))))))) else (bif (m1.phase != 0) then some false else (bif ((List.length s17 : Int) != (List.length s1 : Int)) then some false else ((geti s17 s11).bind fun x18 => ((lodgerref01_Has x18 s12).bind fun r19 => (bif (!(r19 == s3)) then some false else (bif s15 then ((geti s17 s13).bind fun x20 => ((lodgerref01_Has x20 s14).bind fun r21 => ((geti s17 s11).bind fun x22 => (bif (!(r21 == (x22 == 18446744073709551615))) then some false else k1 s1 s11 s12 s13 s14 s17 0)))) else k1 s1 s11 s12 s13 s14 s17 0)))))))
def lodgerlaw08_HintOnly_s1 (k0 : (List Int) → Bool → Int → Int → Int → Int → Bool → (List Int) → Int → Conf → Oq → Option (Bool)) (k1 : (List Int) → Int → Int → Int → Int → (List Int) → Int → Option (Bool)) (s1 : (List Int)) (s11 : Int) (s12 : Int) (s13 : Int) (s14 : Int) (s17 : (List Int)) (s19 : Int) : Option (Bool) := (bif (decide (s19 < (List.length s1 : Int))) then (bif (s19 != s11) then (bif (s19 != s13) then ((geti s17 s19).bind fun x23 => ((geti s1 s19).bind fun x24 => (bif (x23 != x24) then some false else k1 s1 s11 s12 s13 s14 s17 (IntKind.wrap .i64 (s19 + 1))))) else k1 s1 s11 s12 s13 s14 s17 (IntKind.wrap .i64 (s19 + 1))) else k1 s1 s11 s12 s13 s14 s17 (IntKind.wrap .i64 (s19 + 1))) else ((geti s17 s11).bind fun x25 => ((lodgerref01_Clear x25 s12).bind fun r26 => ((geti s1 s11).bind fun x27 => ((lodgerref01_Clear x27 s12).bind fun r28 => (bif (r26 == r28) then ((geti s17 s13).bind fun x29 => ((lodgerref01_Clear x29 s14).bind fun r30 => ((geti s1 s13).bind fun x31 => ((lodgerref01_Clear x31 s14).bind fun r32 => some (r30 == r32))))) else some false))))))
def lodgerlaw08_HintOnly_e (k0 : (List Int) → Bool → Int → Int → Int → Int → Bool → (List Int) → Int → Conf → Oq → Option (Bool)) (k1 : (List Int) → Int → Int → Int → Int → (List Int) → Int → Option (Bool)) (a0 : Conf) (a1 : (List Int)) (a2 : Int) (a3 : Bool) : Option (Bool) := (lodgerlaw08_awake.bind fun r1 => (bif (not r1) then (lodgerlaw08_awake.bind fun r2 => some r2) else ((lodgerref08_Fits a0 a1).bind fun r3 => (bif (not r3) then (lodgerlaw08_awake.bind fun r4 => some r4) else ((lodgerref05_Many a0.block).bind fun r5 => ((lodgerref06_Leaves r5).bind fun r6 => (bif (r6 == 0) then none else ((lodgerref06_Top r5 (Int.tmod (IntKind.wrap .i64 a2) r6)).bind fun r7 => ((lodgerref06_Root r5 (Int.tmod (IntKind.wrap .i64 a2) r6)).bind fun r8 => ((geti a1 r8.1).bind fun x9 => ((lodgerref01_Has x9 r8.2).bind fun r10 => ((geti a1 r7.1).bind fun x11 => k0 a1 a3 r7.1 r7.2 r8.1 r8.2 (r10 == (x11 == 18446744073709551615)) a1 0 a0 (⟨⟨0, 0, []⟩, ⟨0, 0, false, [], []⟩, 4, 0, 0, (Int.tmod (IntKind.wrap .i64 a2) r6), 0, 0, a3, [], 0, 0, 0, 0⟩ : Oq)))))))))))))
def lodgerlaw08_HintOnly_ls : Nat → ((List Int) → Bool → Int → Int → Int → Int → Bool → (List Int) → Int → Conf → Oq → Option (Bool)) × ((List Int) → Int → Int → Int → Int → (List Int) → Int → Option (Bool))
  | 0 => (fun _ _ _ _ _ _ _ _ _ _ _ => none, fun _ _ _ _ _ _ _ => none)
  | n + 1 => (lodgerlaw08_HintOnly_s0 (lodgerlaw08_HintOnly_ls n).1 (lodgerlaw08_HintOnly_ls n).2, lodgerlaw08_HintOnly_s1 (lodgerlaw08_HintOnly_ls n).1 (lodgerlaw08_HintOnly_ls n).2)
def lodgerlaw08_HintOnly_l0 (n : Nat) : (List Int) → Bool → Int → Int → Int → Int → Bool → (List Int) → Int → Conf → Oq → Option (Bool) := (lodgerlaw08_HintOnly_ls n).1
def lodgerlaw08_HintOnly_l1 (n : Nat) : (List Int) → Int → Int → Int → Int → (List Int) → Int → Option (Bool) := (lodgerlaw08_HintOnly_ls n).2
theorem su0_lodgerlaw08_HintOnly (n : Nat) : lodgerlaw08_HintOnly_l0 (n + 1) = lodgerlaw08_HintOnly_s0 (lodgerlaw08_HintOnly_l0 n) (lodgerlaw08_HintOnly_l1 n) := rfl
theorem su1_lodgerlaw08_HintOnly (n : Nat) : lodgerlaw08_HintOnly_l1 (n + 1) = lodgerlaw08_HintOnly_s1 (lodgerlaw08_HintOnly_l0 n) (lodgerlaw08_HintOnly_l1 n) := rfl
def lodgerlaw08_HintOnly_n (n : Nat) (a0 : Conf) (a1 : (List Int)) (a2 : Int) (a3 : Bool) : Option (Bool) := lodgerlaw08_HintOnly_e (lodgerlaw08_HintOnly_l0 n) (lodgerlaw08_HintOnly_l1 n) a0 a1 a2 a3
def lodgerlaw08_HintOnly (a0 : Conf) (a1 : (List Int)) (a2 : Int) (a3 : Bool) : Option (Bool) := lodgerlaw08_HintOnly_n big a0 a1 a2 a3
theorem def_lodgerlaw08_HintOnly (a0 : Conf) (a1 : (List Int)) (a2 : Int) (a3 : Bool) : lodgerlaw08_HintOnly a0 a1 a2 a3 = lodgerlaw08_HintOnly_n big a0 a1 a2 a3 := rfl
-- lodger/lodgerlaw08.HintBatch
def lodgerlaw08_HintBatch_s0 (k0 : Int → Conf → Oq → Oq → Option (Bool)) (s6 : Int) (m0 : Conf) (m1 : Oq) (m2 : Oq) : Option (Bool) := (bif (decide (s6 < (List.length m1.ask.addrs : Int))) then (bif (m1.ask.kind == 4) then ((hint_Goes m0 m2).bind fun r7 => ((geti m1.ask.addrs s6).bind fun x8 => ((lodgerref05_Offset m0.block x8).bind fun r9 => (bif (r7.item != s6) then some false else (bif (r7.phase != 8) then some false else (bif ((IntKind.wrap .i64 ((IntKind.wrap .i64 (32 * r7.leaf)) + r7.bit)) != r9.1) then some false else (bif r7.full then some false else (bif (r7.word != 0) then some false else (bif (r7.at_ != 0) then some false else k0 (IntKind.wrap .i64 (s6 + 1)) m0 m1 r7))))))))) else ((hint_Goes m0 m2).bind fun r10 => (bif (r10.phase == 0) then ((lodgerref08_Asks r10.ask m1.ask).bind fun r11 => (bif r11 then ((lodgerref08_Answers r10.answer m1.answer).bind fun r12 => some r12) else some false)) else some false))) else ((hint_Goes m0 m2).bind fun r13 => (bif (r13.phase == 0) then ((lodgerref08_Asks r13.ask m1.ask).bind fun r14 => (bif r14 then ((lodgerref08_Answers r13.answer m1.answer).bind fun r15 => some r15) else some false)) else some false)))
def lodgerlaw08_HintBatch_e (k0 : Int → Conf → Oq → Oq → Option (Bool)) (a0 : Conf) (a1 : Oq) : Option (Bool) := (lodgerlaw08_awake.bind fun r1 => (bif (not r1) then (lodgerlaw08_awake.bind fun r2 => some r2) else ((lodgerref05_May a0).bind fun r3 => (bif (not r3) then (lodgerlaw08_awake.bind fun r4 => some r4) else ((lodgerref08_Whole a0 a1).bind fun r5 => (bif (not r5) then (lodgerlaw08_awake.bind fun r6 => some r6) else k0 1 a0 a1 ({ a1 with item := 0 } : Oq)))))))
def lodgerlaw08_HintBatch_l0 : Nat → Int → Conf → Oq → Oq → Option (Bool)
  | 0 => fun _ _ _ _ => none
  | n + 1 => lodgerlaw08_HintBatch_s0 (lodgerlaw08_HintBatch_l0 n)
theorem su0_lodgerlaw08_HintBatch (n : Nat) : lodgerlaw08_HintBatch_l0 (n + 1) = lodgerlaw08_HintBatch_s0 (lodgerlaw08_HintBatch_l0 n) := rfl
def lodgerlaw08_HintBatch_n (n : Nat) (a0 : Conf) (a1 : Oq) : Option (Bool) := lodgerlaw08_HintBatch_e (lodgerlaw08_HintBatch_l0 n) a0 a1
def lodgerlaw08_HintBatch (a0 : Conf) (a1 : Oq) : Option (Bool) := lodgerlaw08_HintBatch_n big a0 a1
theorem def_lodgerlaw08_HintBatch (a0 : Conf) (a1 : Oq) : lodgerlaw08_HintBatch a0 a1 = lodgerlaw08_HintBatch_n big a0 a1 := rfl
-- lodger/lodgerlaw08.HintKeeps
def lodgerlaw08_HintKeeps (a0 : Conf) (a1 : (List Int)) (a2 : Oq) : Option (Bool) := (lodgerlaw08_awake.bind fun r1 => (bif (not r1) then (lodgerlaw08_awake.bind fun r2 => some r2) else ((lodgerref08_Fits a0 a1).bind fun r3 => (bif (not r3) then (lodgerlaw08_awake.bind fun r4 => some r4) else ((lodgerref08_Whole a0 a2).bind fun r5 => (bif (not r5) then (lodgerlaw08_awake.bind fun r6 => some r6) else (bif (a2.phase != 4) then (bif (a2.phase != 5) then (lodgerlaw08_awake.bind fun r7 => some r7) else (bif (decide (a1.length ≤ maxList)) then ((hint_Step a0 a1 a2).bind fun r8 => ((lodgerref02_Same a1 a1).bind fun r9 => some r9)) else none)) else (bif (decide (a1.length ≤ maxList)) then ((hint_Step a0 a1 a2).bind fun r10 => ((lodgerref02_Same a1 a1).bind fun r11 => some r11)) else none))))))))
-- lodger/lodgerlaw08.HintFind
def lodgerlaw08_HintFind_s0 (k0 : Int → Int → Int → Int → Option (Bool)) (k1 : Int → Int → Int → Int → Int → Option (Bool)) (s0 : Int) (s8 : Int) (s9 : Int) (s11 : Int) : Option (Bool) := (bif (decide (s11 < s8)) then ((lodgerref01_Has s0 s11).bind fun r3 => (bif (not r3) then some false else k0 s0 s8 s9 (IntKind.wrap .i64 (s11 + 1)))) else some (s9 == 0))
def lodgerlaw08_HintFind_s1 (k0 : Int → Int → Int → Int → Option (Bool)) (k1 : Int → Int → Int → Int → Int → Option (Bool)) (s0 : Int) (s7 : Int) (s8 : Int) (s9 : Int) (s12 : Int) : Option (Bool) := (bif (decide (s12 < s9)) then ((lodgerref01_Has s0 s12).bind fun r4 => (bif (not r4) then some false else k1 s0 s7 s8 s9 (IntKind.wrap .i64 (s12 + 1)))) else ((lodgerref01_Set s0 s9).bind fun r5 => ((hint_Find r5 s7 s8).bind fun r6 => (bif (decide (s9 ≥ s7)) then (bif (decide (s9 < s8)) then ((lodgerref01_Has s0 s9).bind fun r7 => (bif (not r7) then (bif (not r6.2) then some true else some (decide (r6.1 > s9))) else some false)) else some false) else some false))))
def lodgerlaw08_HintFind_e (k0 : Int → Int → Int → Int → Option (Bool)) (k1 : Int → Int → Int → Int → Int → Option (Bool)) (a0 : Int) (a1 : Int) (a2 : Int) : Option (Bool) := (lodgerlaw08_awake.bind fun r1 => (bif (not r1) then some false else ((hint_Find a0 (IntKind.wrap .i64 (Int.tmod a1 65)) (IntKind.wrap .i64 (Int.tmod a2 65))).bind fun r2 => (bif (not r2.2) then k0 a0 (IntKind.wrap .i64 (Int.tmod a2 65)) r2.1 (IntKind.wrap .i64 (Int.tmod a1 65)) else k1 a0 (IntKind.wrap .i64 (Int.tmod a1 65)) (IntKind.wrap .i64 (Int.tmod a2 65)) r2.1 (IntKind.wrap .i64 (Int.tmod a1 65))))))
def lodgerlaw08_HintFind_ls : Nat → (Int → Int → Int → Int → Option (Bool)) × (Int → Int → Int → Int → Int → Option (Bool))
  | 0 => (fun _ _ _ _ => none, fun _ _ _ _ _ => none)
  | n + 1 => (lodgerlaw08_HintFind_s0 (lodgerlaw08_HintFind_ls n).1 (lodgerlaw08_HintFind_ls n).2, lodgerlaw08_HintFind_s1 (lodgerlaw08_HintFind_ls n).1 (lodgerlaw08_HintFind_ls n).2)
def lodgerlaw08_HintFind_l0 (n : Nat) : Int → Int → Int → Int → Option (Bool) := (lodgerlaw08_HintFind_ls n).1
def lodgerlaw08_HintFind_l1 (n : Nat) : Int → Int → Int → Int → Int → Option (Bool) := (lodgerlaw08_HintFind_ls n).2
theorem su0_lodgerlaw08_HintFind (n : Nat) : lodgerlaw08_HintFind_l0 (n + 1) = lodgerlaw08_HintFind_s0 (lodgerlaw08_HintFind_l0 n) (lodgerlaw08_HintFind_l1 n) := rfl
theorem su1_lodgerlaw08_HintFind (n : Nat) : lodgerlaw08_HintFind_l1 (n + 1) = lodgerlaw08_HintFind_s1 (lodgerlaw08_HintFind_l0 n) (lodgerlaw08_HintFind_l1 n) := rfl
def lodgerlaw08_HintFind_n (n : Nat) (a0 : Int) (a1 : Int) (a2 : Int) : Option (Bool) := lodgerlaw08_HintFind_e (lodgerlaw08_HintFind_l0 n) (lodgerlaw08_HintFind_l1 n) a0 a1 a2
def lodgerlaw08_HintFind (a0 : Int) (a1 : Int) (a2 : Int) : Option (Bool) := lodgerlaw08_HintFind_n big a0 a1 a2
theorem def_lodgerlaw08_HintFind (a0 : Int) (a1 : Int) (a2 : Int) : lodgerlaw08_HintFind a0 a1 a2 = lodgerlaw08_HintFind_n big a0 a1 a2 := rfl
-- lodger/lodgerlaw08.HintLost
def lodgerlaw08_HintLost_s0 (k0 : Int → Int → (List Int) → Int → Conf → Oq → Option (Bool)) (s4 : Int) (s13 : Int) (s15 : (List Int)) (s17 : Int) (m0 : Conf) (m1 : Oq) : Option (Bool) := (bif (decide (s17 < 2)) then (bif (m1.phase != 0) then ((hint_Step m0 s15 m1).bind fun r13 => k0 s4 s13 r13.1 (IntKind.wrap .i64 (s17 + 1)) m0 r13.2) else (bif (m1.phase == 0) then ((geti s15 s13).bind fun x14 => some (x14 == s4)) else some false)) else (bif (m1.phase == 0) then ((geti s15 s13).bind fun x15 => some (x15 == s4)) else some false))
def lodgerlaw08_HintLost_e (k0 : Int → Int → (List Int) → Int → Conf → Oq → Option (Bool)) (a0 : Conf) (a1 : (List Int)) (a2 : Int) (a3 : Bool) (a4 : Int) : Option (Bool) := (lodgerlaw08_awake.bind fun r1 => (bif (not r1) then (lodgerlaw08_awake.bind fun r2 => some r2) else ((lodgerref08_Fits a0 a1).bind fun r3 => (bif (not r3) then (lodgerlaw08_awake.bind fun r4 => some r4) else ((lodgerref05_Many a0.block).bind fun r5 => ((lodgerref06_Leaves r5).bind fun r6 => (bif (r6 == 0) then none else ((lodgerref06_Top r5 (Int.tmod (IntKind.wrap .i64 a2) r6)).bind fun r7 => ((hint_Step a0 a1 (⟨⟨0, 0, []⟩, ⟨0, 0, false, [], []⟩, 4, 0, 0, (Int.tmod (IntKind.wrap .i64 a2) r6), 0, 0, a3, [], 0, 0, 0, 0⟩ : Oq)).bind fun r8 => (bif (r8.2.phase != 5) then some true else ((geti a1 r7.1).bind fun x9 => (bif (a4 == x9) then some true else ((lodgerref02_Set r8.1 r7.1 a4).bind fun r10 => ((hint_Step a0 r10 r8.2).bind fun r11 => ((geti r11.1 r7.1).bind fun x12 => (bif (x12 != a4) then some false else k0 a4 r7.1 r11.1 0 a0 r11.2))))))))))))))))
def lodgerlaw08_HintLost_l0 : Nat → Int → Int → (List Int) → Int → Conf → Oq → Option (Bool)
  | 0 => fun _ _ _ _ _ _ => none
  | n + 1 => lodgerlaw08_HintLost_s0 (lodgerlaw08_HintLost_l0 n)
theorem su0_lodgerlaw08_HintLost (n : Nat) : lodgerlaw08_HintLost_l0 (n + 1) = lodgerlaw08_HintLost_s0 (lodgerlaw08_HintLost_l0 n) := rfl
def lodgerlaw08_HintLost_n (n : Nat) (a0 : Conf) (a1 : (List Int)) (a2 : Int) (a3 : Bool) (a4 : Int) : Option (Bool) := lodgerlaw08_HintLost_e (lodgerlaw08_HintLost_l0 n) a0 a1 a2 a3 a4
def lodgerlaw08_HintLost (a0 : Conf) (a1 : (List Int)) (a2 : Int) (a3 : Bool) (a4 : Int) : Option (Bool) := lodgerlaw08_HintLost_n big a0 a1 a2 a3 a4
theorem def_lodgerlaw08_HintLost (a0 : Conf) (a1 : (List Int)) (a2 : Int) (a3 : Bool) (a4 : Int) : lodgerlaw08_HintLost a0 a1 a2 a3 a4 = lodgerlaw08_HintLost_n big a0 a1 a2 a3 a4 := rfl
end Go.Lv.Ld
