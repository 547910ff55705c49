import Derived.Test.YtiajkejmabflaaaDoorLaD
import Derived.Test.YtiajkejmabflaaaDoorLaE
namespace Go.Lv.Ld
open Go Go.Lv
set_option linter.all false
set_option maxRecDepth 100000
-- lodger/block.Many
def block_Many (a0 : Block) : Option (Int) := (bif (decide ((IntKind.wrap .u64 (IntKind.wrap .i64 (32 - a0.pre))) < 0)) then none else some (shl .i64 1 (IntKind.wrap .u64 (IntKind.wrap .i64 (32 - a0.pre)))))
-- lodger/block.Offset
def block_Offset (a0 : Block) (a1 : Int) : Option (Int × Int) := (bif (decide ((IntKind.wrap .i64 ((IntKind.wrap .i64 a1) - (IntKind.wrap .i64 a0.base))) ≥ 0)) then ((block_Many a0).bind fun r1 => (bif (decide ((IntKind.wrap .i64 ((IntKind.wrap .i64 a1) - (IntKind.wrap .i64 a0.base))) < r1)) then some ((IntKind.wrap .i64 ((IntKind.wrap .i64 a1) - (IntKind.wrap .i64 a0.base))), 0) else some (0, 3))) else some (0, 3))
-- lodger/lodgerref04.Many
def lodgerref04_Many_s0 (k0 : Int → Int → Option (Int)) (s3 : Int) (s4 : Int) : Option (Int) := (bif (decide (s4 < 32)) then k0 (IntKind.wrap .i64 (2 * s3)) (IntKind.wrap .i64 (s4 + 1)) else some s3)
def lodgerref04_Many_e (k0 : Int → Int → Option (Int)) (a0 : Int) : Option (Int) := k0 1 a0
def lodgerref04_Many_l0 : Nat → Int → Int → Option (Int)
  | 0 => fun _ _ => none
  | n + 1 => lodgerref04_Many_s0 (lodgerref04_Many_l0 n)
theorem su0_lodgerref04_Many (n : Nat) : lodgerref04_Many_l0 (n + 1) = lodgerref04_Many_s0 (lodgerref04_Many_l0 n) := rfl
def lodgerref04_Many_n (n : Nat) (a0 : Int) : Option (Int) := lodgerref04_Many_e (lodgerref04_Many_l0 n) a0
def lodgerref04_Many (a0 : Int) : Option (Int) := lodgerref04_Many_n big a0
theorem def_lodgerref04_Many (a0 : Int) : lodgerref04_Many a0 = lodgerref04_Many_n big a0 := rfl
-- lodger/lodgerref05.Many
def lodgerref05_Many (a0 : Block) : Option (Int) := ((lodgerref04_Many a0.pre).bind fun r1 => some r1)
-- lodger/lodgerref04.May
def lodgerref04_May (a0 : Block) : Option (Bool) := (bif (decide (a0.pre ≥ 16)) then (bif (decide (a0.pre ≤ 32)) then ((lodgerref04_Many a0.pre).bind fun r1 => (bif (r1 == 0) then none else some ((Int.tmod (IntKind.wrap .i64 a0.base) r1) == 0))) else some false) else some false)
-- lodger/lodgerref05.May
def lodgerref05_May_s0 (k0 : Int → Conf → Option (Bool)) (s3 : Int) (m0 : Conf) : Option (Bool) := (bif (decide (s3 < (List.length m0.held : Int))) then ((geti m0.held s3).bind fun x2 => (bif (decide (x2 < 0)) then some false else ((geti m0.held s3).bind fun x3 => ((lodgerref05_Many m0.block).bind fun r4 => (bif (decide (x3 ≥ r4)) then some false else (bif (decide (s3 > 0)) then ((geti m0.held s3).bind fun x5 => ((geti m0.held (IntKind.wrap .i64 (s3 - 1))).bind fun x6 => (bif (decide (x5 ≤ x6)) then some false else k0 (IntKind.wrap .i64 (s3 + 1)) m0))) else k0 (IntKind.wrap .i64 (s3 + 1)) m0)))))) else some true)
def lodgerref05_May_e (k0 : Int → Conf → Option (Bool)) (a0 : Conf) : Option (Bool) := ((lodgerref04_May a0.block).bind fun r1 => (bif (not r1) then some false else (bif (decide ((List.length a0.held : Int) > 64)) then some false else (bif (decide (a0.shards < 1)) then some false else (bif (decide (a0.shards > 64)) then some false else (bif (decide (a0.workers < 1)) then some false else (bif (decide (a0.workers > 64)) then some false else (bif (decide (a0.queue < 1)) then some false else (bif (decide (a0.queue > 64)) then some false else (bif (decide (a0.tries < 1)) then some false else (bif (decide (a0.tries > 8)) then some false else k0 0 a0)))))))))))
def lodgerref05_May_l0 : Nat → Int → Conf → Option (Bool)
  | 0 => fun _ _ => none
  | n + 1 => lodgerref05_May_s0 (lodgerref05_May_l0 n)
theorem su0_lodgerref05_May (n : Nat) : lodgerref05_May_l0 (n + 1) = lodgerref05_May_s0 (lodgerref05_May_l0 n) := rfl
def lodgerref05_May_n (n : Nat) (a0 : Conf) : Option (Bool) := lodgerref05_May_e (lodgerref05_May_l0 n) a0
def lodgerref05_May (a0 : Conf) : Option (Bool) := lodgerref05_May_n big a0
theorem def_lodgerref05_May (a0 : Conf) : lodgerref05_May a0 = lodgerref05_May_n big a0 := rfl
-- lodger/lodgerref05.Offset
def lodgerref05_Offset (a0 : Block) (a1 : Int) : Option (Int × Int) := (bif (decide (a1 < a0.base)) then some (0, 3) else ((lodgerref05_Many a0).bind fun r1 => (bif (decide ((IntKind.wrap .i64 (IntKind.wrap .u32 (a1 - a0.base))) ≥ r1)) then some (0, 3) else some ((IntKind.wrap .i64 (IntKind.wrap .u32 (a1 - a0.base))), 0))))
-- lodger/lodgerref08.Addrs
def lodgerref08_Addrs_s0 (k0 : (List Int) → (List Int) → Int → Option (Bool)) (s0 : (List Int)) (s1 : (List Int)) (s5 : Int) : Option (Bool) := (bif (decide (s5 < (List.length s0 : Int))) then ((geti s0 s5).bind fun x1 => ((geti s1 s5).bind fun x2 => (bif (x1 != x2) then some false else k0 s0 s1 (IntKind.wrap .i64 (s5 + 1))))) else some true)
def lodgerref08_Addrs_e (k0 : (List Int) → (List Int) → Int → Option (Bool)) (a0 : (List Int)) (a1 : (List Int)) : Option (Bool) := (bif ((List.length a0 : Int) != (List.length a1 : Int)) then some false else k0 a0 a1 0)
def lodgerref08_Addrs_l0 : Nat → (List Int) → (List Int) → Int → Option (Bool)
  | 0 => fun _ _ _ => none
  | n + 1 => lodgerref08_Addrs_s0 (lodgerref08_Addrs_l0 n)
theorem su0_lodgerref08_Addrs (n : Nat) : lodgerref08_Addrs_l0 (n + 1) = lodgerref08_Addrs_s0 (lodgerref08_Addrs_l0 n) := rfl
def lodgerref08_Addrs_n (n : Nat) (a0 : (List Int)) (a1 : (List Int)) : Option (Bool) := lodgerref08_Addrs_e (lodgerref08_Addrs_l0 n) a0 a1
def lodgerref08_Addrs (a0 : (List Int)) (a1 : (List Int)) : Option (Bool) := lodgerref08_Addrs_n big a0 a1
theorem def_lodgerref08_Addrs (a0 : (List Int)) (a1 : (List Int)) : lodgerref08_Addrs a0 a1 = lodgerref08_Addrs_n big a0 a1 := rfl
-- lodger/lodgerref08.Errs
def lodgerref08_Errs_s0 (k0 : (List Int) → (List Int) → Int → Option (Bool)) (s0 : (List Int)) (s1 : (List Int)) (s5 : Int) : Option (Bool) := (bif (decide (s5 < (List.length s0 : Int))) then ((geti s0 s5).bind fun x1 => ((geti s1 s5).bind fun x2 => (bif (x1 != x2) then some false else k0 s0 s1 (IntKind.wrap .i64 (s5 + 1))))) else some true)
def lodgerref08_Errs_e (k0 : (List Int) → (List Int) → Int → Option (Bool)) (a0 : (List Int)) (a1 : (List Int)) : Option (Bool) := (bif ((List.length a0 : Int) != (List.length a1 : Int)) then some false else k0 a0 a1 0)
def lodgerref08_Errs_l0 : Nat → (List Int) → (List Int) → Int → Option (Bool)
  | 0 => fun _ _ _ => none
  | n + 1 => lodgerref08_Errs_s0 (lodgerref08_Errs_l0 n)
theorem su0_lodgerref08_Errs (n : Nat) : lodgerref08_Errs_l0 (n + 1) = lodgerref08_Errs_s0 (lodgerref08_Errs_l0 n) := rfl
def lodgerref08_Errs_n (n : Nat) (a0 : (List Int)) (a1 : (List Int)) : Option (Bool) := lodgerref08_Errs_e (lodgerref08_Errs_l0 n) a0 a1
def lodgerref08_Errs (a0 : (List Int)) (a1 : (List Int)) : Option (Bool) := lodgerref08_Errs_n big a0 a1
theorem def_lodgerref08_Errs (a0 : (List Int)) (a1 : (List Int)) : lodgerref08_Errs a0 a1 = lodgerref08_Errs_n big a0 a1 := rfl
-- lodger/lodgerref08.Answers
def lodgerref08_Answers (a0 : Answer) (a1 : Answer) : Option (Bool) := (bif (a0.err == a1.err) then (bif (a0.addr == a1.addr) then (bif (a0.used == a1.used) then ((lodgerref08_Addrs a0.addrs a1.addrs).bind fun r1 => (bif r1 then ((lodgerref08_Errs a0.errs a1.errs).bind fun r2 => some r2) else some false)) else some false) else some false) else some false)
end Go.Lv.Ld
namespace Go.Lv.Ld
open Go Go.Lv
set_option linter.all false
set_option maxRecDepth 100000
-- lodger/block.Address
def block_Address (a0 : Block) (a1 : Int) : Option (Int) := some (IntKind.wrap .u32 (a0.base + (IntKind.wrap .u32 a1)))
-- lodger/lodgerref05.Held
def lodgerref05_Held_s0 (k0 : Int → Int → Conf → Option (Bool)) (s1 : Int) (s5 : Int) (m0 : Conf) : Option (Bool) := (bif (decide (s5 < (List.length m0.held : Int))) then ((geti m0.held s5).bind fun x1 => (bif (x1 == s1) then some true else k0 s1 (IntKind.wrap .i64 (s5 + 1)) m0)) else some false)
def lodgerref05_Held_e (k0 : Int → Int → Conf → Option (Bool)) (a0 : Conf) (a1 : Int) : Option (Bool) := k0 a1 0 a0
def lodgerref05_Held_l0 : Nat → Int → Int → Conf → Option (Bool)
  | 0 => fun _ _ _ => none
  | n + 1 => lodgerref05_Held_s0 (lodgerref05_Held_l0 n)
theorem su0_lodgerref05_Held (n : Nat) : lodgerref05_Held_l0 (n + 1) = lodgerref05_Held_s0 (lodgerref05_Held_l0 n) := rfl
def lodgerref05_Held_n (n : Nat) (a0 : Conf) (a1 : Int) : Option (Bool) := lodgerref05_Held_e (lodgerref05_Held_l0 n) a0 a1
def lodgerref05_Held (a0 : Conf) (a1 : Int) : Option (Bool) := lodgerref05_Held_n big a0 a1
theorem def_lodgerref05_Held (a0 : Conf) (a1 : Int) : lodgerref05_Held a0 a1 = lodgerref05_Held_n big a0 a1 := rfl
-- lodger/lodgerref05.Find
def lodgerref05_Find (a0 : Conf) (a1 : Int) : Option (Int × Int) := ((lodgerref05_Offset a0.block a1).bind fun r1 => (bif (r1.2 != 0) then some (0, 3) else ((lodgerref05_Held a0 r1.1).bind fun r2 => (bif r2 then some (0, 4) else some (r1.1, 0)))))
-- lodger/lodgerref10.Names
def lodgerref10_Names (a0 : Ask) : Option ((List Int)) := (bif (a0.kind == 2) then some ([a0.addr] : List Int) else (bif (a0.kind == 3) then some ([a0.addr] : List Int) else (bif (a0.kind == 5) then some ([a0.addr] : List Int) else (bif (a0.kind == 4) then (bif (decide (a0.addrs.length ≤ maxList)) then some a0.addrs else none) else some []))))
-- lodger/lodgerref10.Check
def lodgerref10_Check_s0 (k0 : (List Int) → Int → Conf → Option (Int)) (k1 : (List Int) → Int → Int → Conf → Option (Int)) (s5 : (List Int)) (s6 : Int) (m0 : Conf) : Option (Int) := (bif (decide (s6 < (List.length s5 : Int))) then ((geti s5 s6).bind fun x5 => ((lodgerref05_Find m0 x5).bind fun r6 => (bif (r6.2 != 0) then some r6.2 else k1 s5 s6 0 m0))) else some 0)
def lodgerref10_Check_s1 (k0 : (List Int) → Int → Conf → Option (Int)) (k1 : (List Int) → Int → Int → Conf → Option (Int)) (s5 : (List Int)) (s6 : Int) (s9 : Int) (m0 : Conf) : Option (Int) := (bif (decide (s9 < s6)) then ((geti s5 s9).bind fun x7 => ((geti s5 s6).bind fun x8 => (bif (x7 == x8) then some 8 else k1 s5 s6 (IntKind.wrap .i64 (s9 + 1)) m0))) else k0 s5 (IntKind.wrap .i64 (s6 + 1)) m0)
def lodgerref10_Check_e (k0 : (List Int) → Int → Conf → Option (Int)) (k1 : (List Int) → Int → Int → Conf → Option (Int)) (a0 : Conf) (a1 : Ask) : Option (Int) := (bif (decide (a1.kind < 1)) then some 1 else (bif (decide (a1.kind > 7)) then some 1 else (bif (a1.kind == 4) then (bif ((List.length a1.addrs : Int) == 0) then some 7 else (bif (a1.kind == 4) then (bif (decide ((List.length a1.addrs : Int) > 64)) then some 1 else ((lodgerref10_Names a1).bind fun r1 => k0 r1 0 a0)) else ((lodgerref10_Names a1).bind fun r2 => k0 r2 0 a0))) else (bif (a1.kind == 4) then (bif (decide ((List.length a1.addrs : Int) > 64)) then some 1 else ((lodgerref10_Names a1).bind fun r3 => k0 r3 0 a0)) else ((lodgerref10_Names a1).bind fun r4 => k0 r4 0 a0)))))
def lodgerref10_Check_ls : Nat → ((List Int) → Int → Conf → Option (Int)) × ((List Int) → Int → Int → Conf → Option (Int))
  | 0 => (fun _ _ _ => none, fun _ _ _ _ => none)
  | n + 1 => (lodgerref10_Check_s0 (lodgerref10_Check_ls n).1 (lodgerref10_Check_ls n).2, lodgerref10_Check_s1 (lodgerref10_Check_ls n).1 (lodgerref10_Check_ls n).2)
def lodgerref10_Check_l0 (n : Nat) : (List Int) → Int → Conf → Option (Int) := (lodgerref10_Check_ls n).1
def lodgerref10_Check_l1 (n : Nat) : (List Int) → Int → Int → Conf → Option (Int) := (lodgerref10_Check_ls n).2
theorem su0_lodgerref10_Check (n : Nat) : lodgerref10_Check_l0 (n + 1) = lodgerref10_Check_s0 (lodgerref10_Check_l0 n) (lodgerref10_Check_l1 n) := rfl
theorem su1_lodgerref10_Check (n : Nat) : lodgerref10_Check_l1 (n + 1) = lodgerref10_Check_s1 (lodgerref10_Check_l0 n) (lodgerref10_Check_l1 n) := rfl
def lodgerref10_Check_n (n : Nat) (a0 : Conf) (a1 : Ask) : Option (Int) := lodgerref10_Check_e (lodgerref10_Check_l0 n) (lodgerref10_Check_l1 n) a0 a1
def lodgerref10_Check (a0 : Conf) (a1 : Ask) : Option (Int) := lodgerref10_Check_n big a0 a1
theorem def_lodgerref10_Check (a0 : Conf) (a1 : Ask) : lodgerref10_Check a0 a1 = lodgerref10_Check_n big a0 a1 := rfl
-- lodger/lodgerref09.Has
def lodgerref09_Has_s0 (k0 : (List Int) → Int → Int → Option (Bool)) (s0 : (List Int)) (s1 : Int) (s5 : Int) : Option (Bool) := (bif (decide (s5 < (List.length s0 : Int))) then ((geti s0 s5).bind fun x1 => (bif (x1 == s1) then some true else k0 s0 s1 (IntKind.wrap .i64 (s5 + 1)))) else some false)
def lodgerref09_Has_e (k0 : (List Int) → Int → Int → Option (Bool)) (a0 : (List Int)) (a1 : Int) : Option (Bool) := k0 a0 a1 0
def lodgerref09_Has_l0 : Nat → (List Int) → Int → Int → Option (Bool)
  | 0 => fun _ _ _ => none
  | n + 1 => lodgerref09_Has_s0 (lodgerref09_Has_l0 n)
theorem su0_lodgerref09_Has (n : Nat) : lodgerref09_Has_l0 (n + 1) = lodgerref09_Has_s0 (lodgerref09_Has_l0 n) := rfl
def lodgerref09_Has_n (n : Nat) (a0 : (List Int)) (a1 : Int) : Option (Bool) := lodgerref09_Has_e (lodgerref09_Has_l0 n) a0 a1
def lodgerref09_Has (a0 : (List Int)) (a1 : Int) : Option (Bool) := lodgerref09_Has_n big a0 a1
theorem def_lodgerref09_Has (a0 : (List Int)) (a1 : Int) : lodgerref09_Has a0 a1 = lodgerref09_Has_n big a0 a1 := rfl
-- lodger/lodgerref03.Ints
def lodgerref03_Ints_s0 (k0 : (List Int) → (List Int) → Int → Option (Bool)) (s0 : (List Int)) (s1 : (List Int)) (s5 : Int) : Option (Bool) := (bif (decide (s5 < (List.length s0 : Int))) then ((geti s0 s5).bind fun x1 => ((geti s1 s5).bind fun x2 => (bif (x1 != x2) then some false else k0 s0 s1 (IntKind.wrap .i64 (s5 + 1))))) else some true)
def lodgerref03_Ints_e (k0 : (List Int) → (List Int) → Int → Option (Bool)) (a0 : (List Int)) (a1 : (List Int)) : Option (Bool) := (bif ((List.length a0 : Int) != (List.length a1 : Int)) then some false else k0 a0 a1 0)
def lodgerref03_Ints_l0 : Nat → (List Int) → (List Int) → Int → Option (Bool)
  | 0 => fun _ _ _ => none
  | n + 1 => lodgerref03_Ints_s0 (lodgerref03_Ints_l0 n)
theorem su0_lodgerref03_Ints (n : Nat) : lodgerref03_Ints_l0 (n + 1) = lodgerref03_Ints_s0 (lodgerref03_Ints_l0 n) := rfl
def lodgerref03_Ints_n (n : Nat) (a0 : (List Int)) (a1 : (List Int)) : Option (Bool) := lodgerref03_Ints_e (lodgerref03_Ints_l0 n) a0 a1
def lodgerref03_Ints (a0 : (List Int)) (a1 : (List Int)) : Option (Bool) := lodgerref03_Ints_n big a0 a1
theorem def_lodgerref03_Ints (a0 : (List Int)) (a1 : (List Int)) : lodgerref03_Ints a0 a1 = lodgerref03_Ints_n big a0 a1 := rfl
-- lodger/lodgerref09.With
def lodgerref09_With_s0 (k0 : (List Int) → Int → Bool → Int → (List Int) → Option ((List Int))) (s0 : (List Int)) (s1 : Int) (s6 : Bool) (s7 : Int) (m0 : (List Int)) : Option ((List Int)) := (bif (decide (s7 < (List.length s0 : Int))) then (bif (not s6) then ((geti s0 s7).bind fun x1 => (bif (decide (x1 ≥ s1)) then ((geti s0 s7).bind fun x2 => (bif (decide (x2 > s1)) then (bif (decide (m0.length + ([s1] : List Int).length ≤ maxList)) then ((geti s0 s7).bind fun x3 => (bif (decide ((m0 ++ ([s1] : List Int)).length + ([x3] : List Int).length ≤ maxList)) then k0 s0 s1 true (IntKind.wrap .i64 (s7 + 1)) ((m0 ++ ([s1] : List Int)) ++ ([x3] : List Int)) else none)) else none) else ((geti s0 s7).bind fun x4 => (bif (decide (m0.length + ([x4] : List Int).length ≤ maxList)) then k0 s0 s1 true (IntKind.wrap .i64 (s7 + 1)) (m0 ++ ([x4] : List Int)) else none)))) else ((geti s0 s7).bind fun x5 => (bif (decide (m0.length + ([x5] : List Int).length ≤ maxList)) then k0 s0 s1 s6 (IntKind.wrap .i64 (s7 + 1)) (m0 ++ ([x5] : List Int)) else none)))) else ((geti s0 s7).bind fun x6 => (bif (decide (m0.length + ([x6] : List Int).length ≤ maxList)) then k0 s0 s1 s6 (IntKind.wrap .i64 (s7 + 1)) (m0 ++ ([x6] : List Int)) else none))) else (bif (not s6) then (bif (decide (m0.length + ([s1] : List Int).length ≤ maxList)) then some (m0 ++ ([s1] : List Int)) else none) else some m0))
def lodgerref09_With_e (k0 : (List Int) → Int → Bool → Int → (List Int) → Option ((List Int))) (a0 : (List Int)) (a1 : Int) : Option ((List Int)) := k0 a0 a1 false 0 ([] : (List Int))
def lodgerref09_With_l0 : Nat → (List Int) → Int → Bool → Int → (List Int) → Option ((List Int))
  | 0 => fun _ _ _ _ _ => none
  | n + 1 => lodgerref09_With_s0 (lodgerref09_With_l0 n)
theorem su0_lodgerref09_With (n : Nat) : lodgerref09_With_l0 (n + 1) = lodgerref09_With_s0 (lodgerref09_With_l0 n) := rfl
def lodgerref09_With_n (n : Nat) (a0 : (List Int)) (a1 : Int) : Option ((List Int)) := lodgerref09_With_e (lodgerref09_With_l0 n) a0 a1
def lodgerref09_With (a0 : (List Int)) (a1 : Int) : Option ((List Int)) := lodgerref09_With_n big a0 a1
theorem def_lodgerref09_With (a0 : (List Int)) (a1 : Int) : lodgerref09_With a0 a1 = lodgerref09_With_n big a0 a1 := rfl
end Go.Lv.Ld
namespace Go.Lv.Ld
open Go Go.Lv
set_option linter.all false
set_option maxRecDepth 100000
-- lodger/ask.size
def ask_size (a0 : Ask) : Option (Int) := (bif (a0.kind != 4) then some 0 else (bif ((List.length a0.addrs : Int) == 0) then some 7 else (bif (decide ((List.length a0.addrs : Int) > 64)) then some 1 else some 0)))
-- slices.Clone[[]uint32,uint32]
def slices_Clone (a0 : (List Int)) : Option ((List Int)) := cloneF a0
-- lodger/ask.Names
def ask_Names (a0 : Ask) : Option ((List Int)) := (bif (a0.kind == 4) then ((slices_Clone a0.addrs).bind fun r1 => some r1) else (bif (decide (a0.kind ≥ 0)) then (bif (decide (a0.kind < 6)) then (bif (a0.kind == (0 : Int)) then some [] else (bif (a0.kind == (1 : Int)) then some [] else (bif (a0.kind == (2 : Int)) then some ([a0.addr] : List Int) else (bif (a0.kind == (3 : Int)) then some ([a0.addr] : List Int) else (bif (a0.kind == (4 : Int)) then some [] else (bif (a0.kind == (5 : Int)) then some ([a0.addr] : List Int) else none)))))) else some []) else some []))
-- slices.Index[[]int,int]
def slices_Index_s0 (k0 : (List Int) → Int → Int → Int → Option (Int)) (s0 : (List Int)) (s1 : Int) (s7 : Int) (s8 : Int) : Option (Int) := (bif (decide (s8 < s7)) then ((geti s0 s8).bind fun x1 => (bif (s1 == x1) then some s8 else k0 s0 s1 s7 (IntKind.wrap .i64 (s8 + 1)))) else some (-1))
def slices_Index_e (k0 : (List Int) → Int → Int → Int → Option (Int)) (a0 : (List Int)) (a1 : Int) : Option (Int) := k0 a0 a1 (List.length a0 : Int) 0
def slices_Index_l0 : Nat → (List Int) → Int → Int → Int → Option (Int)
  | 0 => fun _ _ _ _ => none
  | n + 1 => slices_Index_s0 (slices_Index_l0 n)
theorem su0_slices_Index (n : Nat) : slices_Index_l0 (n + 1) = slices_Index_s0 (slices_Index_l0 n) := rfl
def slices_Index_n (n : Nat) (a0 : (List Int)) (a1 : Int) : Option (Int) := slices_Index_e (slices_Index_l0 n) a0 a1
def slices_Index (a0 : (List Int)) (a1 : Int) : Option (Int) := slices_Index_n big a0 a1
theorem def_slices_Index (a0 : (List Int)) (a1 : Int) : slices_Index a0 a1 = slices_Index_n big a0 a1 := rfl
-- slices.Contains[[]int,int]
def slices_Contains (a0 : (List Int)) (a1 : Int) : Option (Bool) := ((slices_Index a0 a1).bind fun r1 => some (decide (r1 ≥ 0)))
-- lodger/block.Held
def block_Held (a0 : Conf) (a1 : Int) : Option (Bool) := ((slices_Contains a0.held a1).bind fun r1 => some r1)
-- lodger/block.Find
def block_Find (a0 : Conf) (a1 : Int) : Option (Int × Int) := ((block_Offset a0.block a1).bind fun r1 => (bif (r1.2 != 0) then some (0, r1.2) else ((block_Held a0 r1.1).bind fun r2 => (bif r2 then some (0, 4) else some (r1.1, 0)))))
-- lodger/ask.Check
def ask_Check_s0 (k0 : (List Int) → Int → Int → Conf → (List (Int × Bool)) → Option (Int)) (s26 : (List Int)) (s27 : Int) (s28 : Int) (m0 : Conf) (m2 : (List (Int × Bool))) : Option (Int) := (bif (decide (s28 < s27)) then ((geti s26 s28).bind fun x3 => ((block_Find m0 x3).bind fun r4 => (bif (r4.2 != 0) then some r4.2 else (bif (mget x3 m2) then some 8 else k0 s26 s27 (IntKind.wrap .i64 (s28 + 1)) m0 (mput x3 true m2))))) else some 0)
def ask_Check_e (k0 : (List Int) → Int → Int → Conf → (List (Int × Bool)) → Option (Int)) (a0 : Conf) (a1 : Ask) : Option (Int) := (bif (decide (a1.kind < 1)) then some 1 else (bif (decide (a1.kind > 7)) then some 1 else ((ask_size a1).bind fun r1 => (bif (r1 != 0) then some r1 else ((ask_Names a1).bind fun r2 => k0 r2 (List.length r2 : Int) 0 a0 ([] : List (Int × Bool)))))))
def ask_Check_l0 : Nat → (List Int) → Int → Int → Conf → (List (Int × Bool)) → Option (Int)
  | 0 => fun _ _ _ _ _ => none
  | n + 1 => ask_Check_s0 (ask_Check_l0 n)
theorem su0_ask_Check (n : Nat) : ask_Check_l0 (n + 1) = ask_Check_s0 (ask_Check_l0 n) := rfl
def ask_Check_n (n : Nat) (a0 : Conf) (a1 : Ask) : Option (Int) := ask_Check_e (ask_Check_l0 n) a0 a1
def ask_Check (a0 : Conf) (a1 : Ask) : Option (Int) := ask_Check_n big a0 a1
theorem def_ask_Check (a0 : Conf) (a1 : Ask) : ask_Check a0 a1 = ask_Check_n big a0 a1 := rfl
end Go.Lv.Ld
namespace Go.Lv.Ld
open Go Go.Lv
set_option linter.all false
set_option maxRecDepth 100000
-- lodger/linz.answered
def linz_answered (a0 : Call) : Option (Bool) := some (decide (a0.to_ ≥ 0))
-- lodger/linz.ahead
def linz_ahead (a0 : Call) (a1 : Call) : Option (Bool) := ((linz_answered a0).bind fun r1 => (bif r1 then some (decide (a0.to_ < a1.from_)) else some false))
-- slices.IndexFunc[[]int,int]
def slices_IndexFunc_s0 (k0 : (List Int) → Int → Int → (List Call) → Int → Option (Int)) (s0 : (List Int)) (s7 : Int) (s8 : Int) (m0_0 : (List Call)) (m1_0 : Int) : Option (Int) := (bif (decide (s8 < s7)) then ((geti s0 s8).bind fun x1 => ((geti m0_0 m1_0).bind fun x2 => ((geti m0_0 x1).bind fun x3 => ((linz_ahead x2 x3).bind fun r4 => (bif r4 then some s8 else k0 s0 s7 (IntKind.wrap .i64 (s8 + 1)) m0_0 m1_0))))) else some (-1))
def slices_IndexFunc_e (k0 : (List Int) → Int → Int → (List Call) → Int → Option (Int)) (a0 : (List Int)) (a1 : (List Call)) (a2 : Int) : Option (Int) := k0 a0 (List.length a0 : Int) 0 a1 a2
def slices_IndexFunc_l0 : Nat → (List Int) → Int → Int → (List Call) → Int → Option (Int)
  | 0 => fun _ _ _ _ _ => none
  | n + 1 => slices_IndexFunc_s0 (slices_IndexFunc_l0 n)
theorem su0_slices_IndexFunc (n : Nat) : slices_IndexFunc_l0 (n + 1) = slices_IndexFunc_s0 (slices_IndexFunc_l0 n) := rfl
def slices_IndexFunc_n (n : Nat) (a0 : (List Int)) (a1 : (List Call)) (a2 : Int) : Option (Int) := slices_IndexFunc_e (slices_IndexFunc_l0 n) a0 a1 a2
def slices_IndexFunc (a0 : (List Int)) (a1 : (List Call)) (a2 : Int) : Option (Int) := slices_IndexFunc_n big a0 a1 a2
theorem def_slices_IndexFunc (a0 : (List Int)) (a1 : (List Call)) (a2 : Int) : slices_IndexFunc a0 a1 a2 = slices_IndexFunc_n big a0 a1 a2 := rfl
-- lodger/linz.Whole
def linz_Whole_s0 (k0 : (List Int) → (List Int) → Int → Int → (List Call) → (List (Int × Bool)) → Option (Bool)) (k1 : (List Call) → Int → Int → (List (Int × Bool)) → Option (Bool)) (s1 : (List Int)) (s11 : (List Int)) (s12 : Int) (s13 : Int) (m0_0 : (List Call)) (m1 : (List (Int × Bool))) : Option (Bool) := (bif (decide (s13 < s12)) then ((geti s11 s13).bind fun x1 => (bif (decide (x1 < 0)) then some false else (bif (decide (x1 ≥ (List.length m0_0 : Int))) then some false else (bif (mget x1 m1) then some false else (bif (okBounds (s1.length : Int) 0 s13 none) then ((slices_IndexFunc ((s1.take (Int.toNat s13)).drop (Int.toNat 0)) m0_0 x1).bind fun r2 => (bif (decide (r2 ≥ 0)) then some false else k0 s1 s11 s12 (IntKind.wrap .i64 (s13 + 1)) m0_0 (mput x1 true m1))) else none))))) else k1 m0_0 (List.length m0_0 : Int) 0 m1)
def linz_Whole_s1 (k0 : (List Int) → (List Int) → Int → Int → (List Call) → (List (Int × Bool)) → Option (Bool)) (k1 : (List Call) → Int → Int → (List (Int × Bool)) → Option (Bool)) (s39 : (List Call)) (s40 : Int) (s41 : Int) (m1 : (List (Int × Bool))) : Option (Bool) := (bif (decide (s41 < s40)) then ((geti s39 s41).bind fun x3 => ((linz_answered x3).bind fun r4 => (bif r4 then (bif (not (mget s41 m1)) then some false else k1 s39 s40 (IntKind.wrap .i64 (s41 + 1)) m1) else k1 s39 s40 (IntKind.wrap .i64 (s41 + 1)) m1))) else some true)
def linz_Whole_e (k0 : (List Int) → (List Int) → Int → Int → (List Call) → (List (Int × Bool)) → Option (Bool)) (k1 : (List Call) → Int → Int → (List (Int × Bool)) → Option (Bool)) (a0 : (List Call)) (a1 : (List Int)) : Option (Bool) := k0 a1 a1 (List.length a1 : Int) 0 a0 ([] : List (Int × Bool))
def linz_Whole_ls : Nat → ((List Int) → (List Int) → Int → Int → (List Call) → (List (Int × Bool)) → Option (Bool)) × ((List Call) → Int → Int → (List (Int × Bool)) → Option (Bool))
  | 0 => (fun _ _ _ _ _ _ => none, fun _ _ _ _ => none)
  | n + 1 => (linz_Whole_s0 (linz_Whole_ls n).1 (linz_Whole_ls n).2, linz_Whole_s1 (linz_Whole_ls n).1 (linz_Whole_ls n).2)
def linz_Whole_l0 (n : Nat) : (List Int) → (List Int) → Int → Int → (List Call) → (List (Int × Bool)) → Option (Bool) := (linz_Whole_ls n).1
def linz_Whole_l1 (n : Nat) : (List Call) → Int → Int → (List (Int × Bool)) → Option (Bool) := (linz_Whole_ls n).2
theorem su0_linz_Whole (n : Nat) : linz_Whole_l0 (n + 1) = linz_Whole_s0 (linz_Whole_l0 n) (linz_Whole_l1 n) := rfl
theorem su1_linz_Whole (n : Nat) : linz_Whole_l1 (n + 1) = linz_Whole_s1 (linz_Whole_l0 n) (linz_Whole_l1 n) := rfl
def linz_Whole_n (n : Nat) (a0 : (List Call)) (a1 : (List Int)) : Option (Bool) := linz_Whole_e (linz_Whole_l0 n) (linz_Whole_l1 n) a0 a1
def linz_Whole (a0 : (List Call)) (a1 : (List Int)) : Option (Bool) := linz_Whole_n big a0 a1
theorem def_linz_Whole (a0 : (List Call)) (a1 : (List Int)) : linz_Whole a0 a1 = linz_Whole_n big a0 a1 := rfl
-- slices.Equal[[]uint32,uint32]
def slices_Equal_55_s0 (k0 : (List Int) → (List Int) → Int → Int → Option (Bool)) (s0 : (List Int)) (s1 : (List Int)) (s12 : Int) (s13 : Int) : Option (Bool) := (bif (decide (s13 < s12)) then ((geti s0 s13).bind fun x1 => ((geti s1 s13).bind fun x2 => (bif (x1 != x2) then some false else k0 s0 s1 s12 (IntKind.wrap .i64 (s13 + 1))))) else some true)
def slices_Equal_55_e (k0 : (List Int) → (List Int) → Int → Int → Option (Bool)) (a0 : (List Int)) (a1 : (List Int)) : Option (Bool) := (bif ((List.length a0 : Int) != (List.length a1 : Int)) then some false else k0 a0 a1 (List.length a0 : Int) 0)
def slices_Equal_55_l0 : Nat → (List Int) → (List Int) → Int → Int → Option (Bool)
  | 0 => fun _ _ _ _ => none
  | n + 1 => slices_Equal_55_s0 (slices_Equal_55_l0 n)
theorem su0_slices_Equal_55 (n : Nat) : slices_Equal_55_l0 (n + 1) = slices_Equal_55_s0 (slices_Equal_55_l0 n) := rfl
def slices_Equal_55_n (n : Nat) (a0 : (List Int)) (a1 : (List Int)) : Option (Bool) := slices_Equal_55_e (slices_Equal_55_l0 n) a0 a1
def slices_Equal_55 (a0 : (List Int)) (a1 : (List Int)) : Option (Bool) := slices_Equal_55_n big a0 a1
theorem def_slices_Equal_55 (a0 : (List Int)) (a1 : (List Int)) : slices_Equal_55 a0 a1 = slices_Equal_55_n big a0 a1 := rfl
-- slices.Equal[[]lodger/api.Errno,lodger/api.Errno]
def slices_Equal_56_s0 (k0 : (List Int) → (List Int) → Int → Int → Option (Bool)) (s0 : (List Int)) (s1 : (List Int)) (s12 : Int) (s13 : Int) : Option (Bool) := (bif (decide (s13 < s12)) then ((geti s0 s13).bind fun x1 => ((geti s1 s13).bind fun x2 => (bif (x1 != x2) then some false else k0 s0 s1 s12 (IntKind.wrap .i64 (s13 + 1))))) else some true)
def slices_Equal_56_e (k0 : (List Int) → (List Int) → Int → Int → Option (Bool)) (a0 : (List Int)) (a1 : (List Int)) : Option (Bool) := (bif ((List.length a0 : Int) != (List.length a1 : Int)) then some false else k0 a0 a1 (List.length a0 : Int) 0)
def slices_Equal_56_l0 : Nat → (List Int) → (List Int) → Int → Int → Option (Bool)
  | 0 => fun _ _ _ _ => none
  | n + 1 => slices_Equal_56_s0 (slices_Equal_56_l0 n)
theorem su0_slices_Equal_56 (n : Nat) : slices_Equal_56_l0 (n + 1) = slices_Equal_56_s0 (slices_Equal_56_l0 n) := rfl
def slices_Equal_56_n (n : Nat) (a0 : (List Int)) (a1 : (List Int)) : Option (Bool) := slices_Equal_56_e (slices_Equal_56_l0 n) a0 a1
def slices_Equal_56 (a0 : (List Int)) (a1 : (List Int)) : Option (Bool) := slices_Equal_56_n big a0 a1
theorem def_slices_Equal_56 (a0 : (List Int)) (a1 : (List Int)) : slices_Equal_56 a0 a1 = slices_Equal_56_n big a0 a1 := rfl
-- lodger/spec.Same
def spec_Same (a0 : Answer) (a1 : Answer) : Option (Bool) := (bif (a0.err == a1.err) then (bif (a0.addr == a1.addr) then (bif (a0.used == a1.used) then ((slices_Equal_55 a0.addrs a1.addrs).bind fun r1 => (bif r1 then ((slices_Equal_56 a0.errs a1.errs).bind fun r2 => some r2) else some false)) else some false) else some false) else some false)
-- lodger/spec.fail
def spec_fail (a0 : Int) : Option (Answer) := some (⟨a0, 0, false, [], []⟩ : Answer)
-- slices.BinarySearch[[]int,int]
def slices_BinarySearch_s0 (k0 : (List Int) → Int → Int → Int → Int → Option (Int × Bool)) (s0 : (List Int)) (s1 : Int) (s6 : Int) (s7 : Int) (s8 : Int) : Option (Int × Bool) := (bif (decide (s7 < s8)) then ((geti s0 (IntKind.wrap .i64 (shr .u64 (IntKind.wrap .u64 (IntKind.wrap .i64 (s7 + s8))) 1))).bind fun x1 => (bif (x1 != x1) then (bif (not (s1 != s1)) then k0 s0 s1 s6 (IntKind.wrap .i64 ((IntKind.wrap .i64 (shr .u64 (IntKind.wrap .u64 (IntKind.wrap .i64 (s7 + s8))) 1)) + 1)) s8 else (bif (decide (x1 < s1)) then k0 s0 s1 s6 (IntKind.wrap .i64 ((IntKind.wrap .i64 (shr .u64 (IntKind.wrap .u64 (IntKind.wrap .i64 (s7 + s8))) 1)) + 1)) s8 else k0 s0 s1 s6 s7 (IntKind.wrap .i64 (shr .u64 (IntKind.wrap .u64 (IntKind.wrap .i64 (s7 + s8))) 1)))) else (bif (decide (x1 < s1)) then k0 s0 s1 s6 (IntKind.wrap .i64 ((IntKind.wrap .i64 (shr .u64 (IntKind.wrap .u64 (IntKind.wrap .i64 (s7 + s8))) 1)) + 1)) s8 else k0 s0 s1 s6 s7 (IntKind.wrap .i64 (shr .u64 (IntKind.wrap .u64 (IntKind.wrap .i64 (s7 + s8))) 1))))) else (bif (decide (s7 < s6)) then ((geti s0 s7).bind fun x2 => (bif (x2 == s1) then some (s7, true) else ((geti s0 s7).bind fun x3 => (bif (x3 != x3) then some (s7, (s1 != s1)) else some (s7, false))))) else some (s7, false)))
def slices_BinarySearch_e (k0 : (List Int) → Int → Int → Int → Int → Option (Int × Bool)) (a0 : (List Int)) (a1 : Int) : Option (Int × Bool) := k0 a0 a1 (List.length a0 : Int) 0 (List.length a0 : Int)
def slices_BinarySearch_l0 : Nat → (List Int) → Int → Int → Int → Int → Option (Int × Bool)
  | 0 => fun _ _ _ _ _ => none
  | n + 1 => slices_BinarySearch_s0 (slices_BinarySearch_l0 n)
theorem su0_slices_BinarySearch (n : Nat) : slices_BinarySearch_l0 (n + 1) = slices_BinarySearch_s0 (slices_BinarySearch_l0 n) := rfl
def slices_BinarySearch_n (n : Nat) (a0 : (List Int)) (a1 : Int) : Option (Int × Bool) := slices_BinarySearch_e (slices_BinarySearch_l0 n) a0 a1
def slices_BinarySearch (a0 : (List Int)) (a1 : Int) : Option (Int × Bool) := slices_BinarySearch_n big a0 a1
theorem def_slices_BinarySearch (a0 : (List Int)) (a1 : Int) : slices_BinarySearch a0 a1 = slices_BinarySearch_n big a0 a1 := rfl
-- lodger/model.Has
def model_Has (a0 : (List Int)) (a1 : Int) : Option (Bool) := ((slices_BinarySearch a0 a1).bind fun r1 => some r1.2)
-- lodger/model.With
def model_With (a0 : (List Int)) (a1 : Int) : Option ((List Int)) := ((slices_BinarySearch a0 a1).bind fun r1 => (bif r1.2 then some a0 else (bif (okBounds (a0.length : Int) 0 r1.1 (some r1.1)) then (bif (decide (((a0.take (Int.toNat r1.1)).drop (Int.toNat 0)).length + ([a1] : List Int).length ≤ maxList)) then (bif (okBounds (a0.length : Int) r1.1 (a0.length : Int) none) then (bif (decide ((((a0.take (Int.toNat r1.1)).drop (Int.toNat 0)) ++ ([a1] : List Int)).length + ((a0.take (Int.toNat (a0.length : Int))).drop (Int.toNat r1.1)).length ≤ maxList)) then some ((((a0.take (Int.toNat r1.1)).drop (Int.toNat 0)) ++ ([a1] : List Int)) ++ ((a0.take (Int.toNat (a0.length : Int))).drop (Int.toNat r1.1))) else none) else none) else none) else none)))
-- lodger/spec.least
def spec_least_s0 (k0 : (List Int) → Int → Int → Conf → Answer → Option ((List Int) × Answer)) (s1 : (List Int)) (s11 : Int) (s12 : Int) (m0 : Conf) (m2 : Answer) : Option ((List Int) × Answer) := (bif (decide (s12 < s11)) then ((block_Held m0 s12).bind fun r2 => (bif (not r2) then ((model_Has s1 s12).bind fun r3 => (bif (not r3) then ((model_With s1 s12).bind fun r4 => ((block_Address m0.block s12).bind fun r5 => some (r4, (⟨0, r5, false, [], []⟩ : Answer)))) else k0 s1 s11 (IntKind.wrap .i64 (s12 + 1)) m0 m2)) else k0 s1 s11 (IntKind.wrap .i64 (s12 + 1)) m0 m2)) else ((spec_fail 9).bind fun r6 => some (s1, r6)))
def spec_least_e (k0 : (List Int) → Int → Int → Conf → Answer → Option ((List Int) × Answer)) (a0 : Conf) (a1 : (List Int)) (a2 : Ask) : Option ((List Int) × Answer) := ((block_Many a0.block).bind fun r1 => k0 a1 r1 0 a0 (⟨0, 0, false, [], []⟩ : Answer))
def spec_least_l0 : Nat → (List Int) → Int → Int → Conf → Answer → Option ((List Int) × Answer)
  | 0 => fun _ _ _ _ _ => none
  | n + 1 => spec_least_s0 (spec_least_l0 n)
theorem su0_spec_least (n : Nat) : spec_least_l0 (n + 1) = spec_least_s0 (spec_least_l0 n) := rfl
def spec_least_n (n : Nat) (a0 : Conf) (a1 : (List Int)) (a2 : Ask) : Option ((List Int) × Answer) := spec_least_e (spec_least_l0 n) a0 a1 a2
def spec_least (a0 : Conf) (a1 : (List Int)) (a2 : Ask) : Option ((List Int) × Answer) := spec_least_n big a0 a1 a2
theorem def_spec_least (a0 : Conf) (a1 : (List Int)) (a2 : Ask) : spec_least a0 a1 a2 = spec_least_n big a0 a1 a2 := rfl
-- lodger/spec.offset
def spec_offset (a0 : Conf) (a1 : Int) : Option (Int) := ((block_Find a0 a1).bind fun r1 => some r1.1)
-- lodger/spec.exact
def spec_exact (a0 : Conf) (a1 : (List Int)) (a2 : Ask) : Option ((List Int) × Answer) := ((spec_offset a0 a2.addr).bind fun r1 => ((model_Has a1 r1).bind fun r2 => (bif r2 then ((spec_fail 5).bind fun r3 => some (a1, r3)) else ((model_With a1 r1).bind fun r4 => some (r4, (⟨0, a2.addr, false, [], []⟩ : Answer))))))
-- lodger/model.Without
def model_Without (a0 : (List Int)) (a1 : Int) : Option ((List Int)) := ((slices_BinarySearch a0 a1).bind fun r1 => (bif (not r1.2) then some a0 else (bif (okBounds (a0.length : Int) 0 r1.1 (some r1.1)) then (bif (okBounds (a0.length : Int) (IntKind.wrap .i64 (r1.1 + 1)) (a0.length : Int) none) then (bif ((a0.take (Int.toNat (a0.length : Int))).drop (Int.toNat (IntKind.wrap .i64 (r1.1 + 1)))).isEmpty then some ((a0.take (Int.toNat r1.1)).drop (Int.toNat 0)) else (bif (decide (((a0.take (Int.toNat r1.1)).drop (Int.toNat 0)).length + ((a0.take (Int.toNat (a0.length : Int))).drop (Int.toNat (IntKind.wrap .i64 (r1.1 + 1)))).length ≤ maxList)) then some (((a0.take (Int.toNat r1.1)).drop (Int.toNat 0)) ++ ((a0.take (Int.toNat (a0.length : Int))).drop (Int.toNat (IntKind.wrap .i64 (r1.1 + 1))))) else none)) else none) else none)))
-- lodger/spec.release
def spec_release (a0 : Conf) (a1 : (List Int)) (a2 : Ask) : Option ((List Int) × Answer) := ((spec_offset a0 a2.addr).bind fun r1 => ((model_Has a1 r1).bind fun r2 => (bif (not r2) then ((spec_fail 6).bind fun r3 => some (a1, r3)) else ((model_Without a1 r1).bind fun r4 => some (r4, (⟨0, 0, false, [], []⟩ : Answer))))))
-- lodger/spec.batch
def spec_batch_s0 (k0 : (List Int) → (List Int) → Int → Int → Conf → Int → Int → Bool → Int → Int → Bool → (List Int) → Option ((List Int) × Answer)) (s1 : (List Int)) (s14 : (List Int)) (s15 : Int) (s16 : Int) (m0 : Conf) (m2_0 : Int) (m2_1 : Int) (m2_2 : Bool) (m3_0 : Int) (m3_1 : Int) (m3_2 : Bool) (m4 : (List Int)) : Option ((List Int) × Answer) := (bif (decide (s16 < s15)) then ((geti s14 s16).bind fun x1 => ((spec_release m0 s1 (⟨0, x1, []⟩ : Ask)).bind fun r2 => (bif (decide (m4.length + ([r2.2.err] : List Int).length ≤ maxList)) then k0 r2.1 s14 s15 (IntKind.wrap .i64 (s16 + 1)) m0 m2_0 m2_1 m2_2 m3_0 m3_1 m3_2 (m4 ++ ([r2.2.err] : List Int)) else none))) else some (s1, (⟨m3_0, m3_1, m3_2, [], m4⟩ : Answer)))
def spec_batch_e (k0 : (List Int) → (List Int) → Int → Int → Conf → Int → Int → Bool → Int → Int → Bool → (List Int) → Option ((List Int) × Answer)) (a0 : Conf) (a1 : (List Int)) (a2 : Ask) : Option ((List Int) × Answer) := k0 a1 a2.addrs (List.length a2.addrs : Int) 0 a0 0 0 false 0 0 false ([] : (List Int))
def spec_batch_l0 : Nat → (List Int) → (List Int) → Int → Int → Conf → Int → Int → Bool → Int → Int → Bool → (List Int) → Option ((List Int) × Answer)
  | 0 => fun _ _ _ _ _ _ _ _ _ _ _ _ => none
  | n + 1 => spec_batch_s0 (spec_batch_l0 n)
theorem su0_spec_batch (n : Nat) : spec_batch_l0 (n + 1) = spec_batch_s0 (spec_batch_l0 n) := rfl
def spec_batch_n (n : Nat) (a0 : Conf) (a1 : (List Int)) (a2 : Ask) : Option ((List Int) × Answer) := spec_batch_e (spec_batch_l0 n) a0 a1 a2
def spec_batch (a0 : Conf) (a1 : (List Int)) (a2 : Ask) : Option ((List Int) × Answer) := spec_batch_n big a0 a1 a2
theorem def_spec_batch (a0 : Conf) (a1 : (List Int)) (a2 : Ask) : spec_batch a0 a1 a2 = spec_batch_n big a0 a1 a2 := rfl
-- lodger/spec.query
def spec_query (a0 : Conf) (a1 : (List Int)) (a2 : Ask) : Option ((List Int) × Answer) := ((spec_offset a0 a2.addr).bind fun r1 => ((model_Has a1 r1).bind fun r2 => some (a1, (⟨0, 0, r2, [], []⟩ : Answer))))
-- lodger/model.Addrs
def model_Addrs_s0 (k0 : (List Int) → Int → Int → Conf → (List Int) → Option ((List Int))) (s8 : (List Int)) (s9 : Int) (s10 : Int) (m0 : Conf) (m1 : (List Int)) : Option ((List Int)) := (bif (decide (s10 < s9)) then ((geti s8 s10).bind fun x1 => ((block_Address m0.block x1).bind fun r2 => (bif (decide (m1.length + ([r2] : List Int).length ≤ maxList)) then k0 s8 s9 (IntKind.wrap .i64 (s10 + 1)) m0 (m1 ++ ([r2] : List Int)) else none))) else some m1)
def model_Addrs_e (k0 : (List Int) → Int → Int → Conf → (List Int) → Option ((List Int))) (a0 : Conf) (a1 : (List Int)) : Option ((List Int)) := k0 a1 (List.length a1 : Int) 0 a0 ([] : (List Int))
def model_Addrs_l0 : Nat → (List Int) → Int → Int → Conf → (List Int) → Option ((List Int))
  | 0 => fun _ _ _ _ _ => none
  | n + 1 => model_Addrs_s0 (model_Addrs_l0 n)
theorem su0_model_Addrs (n : Nat) : model_Addrs_l0 (n + 1) = model_Addrs_s0 (model_Addrs_l0 n) := rfl
def model_Addrs_n (n : Nat) (a0 : Conf) (a1 : (List Int)) : Option ((List Int)) := model_Addrs_e (model_Addrs_l0 n) a0 a1
def model_Addrs (a0 : Conf) (a1 : (List Int)) : Option ((List Int)) := model_Addrs_n big a0 a1
theorem def_model_Addrs (a0 : Conf) (a1 : (List Int)) : model_Addrs a0 a1 = model_Addrs_n big a0 a1 := rfl
-- lodger/spec.snapshot
def spec_snapshot (a0 : Conf) (a1 : (List Int)) (a2 : Ask) : Option ((List Int) × Answer) := ((model_Addrs a0 a1).bind fun r1 => some (a1, (⟨0, 0, false, r1, []⟩ : Answer)))
-- lodger/spec.closing
def spec_closing (a0 : Conf) (a1 : (List Int)) (a2 : Ask) : Option ((List Int) × Answer) := some (a1, (⟨0, 0, false, [], []⟩ : Answer))
-- lodger/spec.Some
def spec_Some (a0 : Conf) (a1 : (List Int)) (a2 : Ask) : Option ((List Int) × Answer) := ((ask_Check a0 a2).bind fun r1 => (bif (r1 != 0) then ((spec_fail r1).bind fun r2 => some (a1, r2)) else (bif (ieq a2.kind 1) then ((spec_least a0 a1 a2).bind fun r3 => some (r3.1, r3.2)) else (bif (ieq a2.kind 2) then ((spec_exact a0 a1 a2).bind fun r4 => some (r4.1, r4.2)) else (bif (ieq a2.kind 3) then ((spec_release a0 a1 a2).bind fun r5 => some (r5.1, r5.2)) else (bif (ieq a2.kind 4) then ((spec_batch a0 a1 a2).bind fun r6 => some (r6.1, r6.2)) else (bif (ieq a2.kind 5) then ((spec_query a0 a1 a2).bind fun r7 => some (r7.1, r7.2)) else (bif (ieq a2.kind 6) then ((spec_snapshot a0 a1 a2).bind fun r8 => some (r8.1, r8.2)) else (bif (ieq a2.kind 7) then ((spec_closing a0 a1 a2).bind fun r9 => some (r9.1, r9.2)) else none)))))))))
-- lodger/spec.Legal
def spec_Legal (a0 : Conf) (a1 : (List Int)) (a2 : Ask) (a3 : Answer) : Option ((List Int) × Bool) := ((spec_fail 10).bind fun r1 => ((spec_Same a3 r1).bind fun r2 => (bif r2 then some (a1, true) else ((spec_fail 12).bind fun r3 => ((spec_Same a3 r3).bind fun r4 => (bif r4 then some (a1, true) else ((spec_Some a0 a1 a2).bind fun r5 => ((spec_Same a3 r5.2).bind fun r6 => (bif r6 then some (r5.1, true) else ((ask_Check a0 a2).bind fun r7 => (bif (r7 != 0) then some (a1, false) else (bif (a2.kind == 6) then ((spec_fail 11).bind fun r8 => ((spec_Same a3 r8).bind fun r9 => (bif r9 then some (a1, true) else (bif (a2.kind == 1) then ((spec_Same a3 (⟨0, a3.addr, false, [], []⟩ : Answer)).bind fun r10 => (bif r10 then ((block_Find a0 a3.addr).bind fun r11 => (bif (r11.2 == 0) then ((model_Has a1 r11.1).bind fun r12 => (bif (not r12) then ((model_With a1 r11.1).bind fun r13 => some (r13, true)) else some (a1, false))) else some (a1, false))) else some (a1, false))) else some (a1, false))))) else (bif (a2.kind == 1) then ((spec_Same a3 (⟨0, a3.addr, false, [], []⟩ : Answer)).bind fun r14 => (bif r14 then ((block_Find a0 a3.addr).bind fun r15 => (bif (r15.2 == 0) then ((model_Has a1 r15.1).bind fun r16 => (bif (not r16) then ((model_With a1 r15.1).bind fun r17 => some (r17, true)) else some (a1, false))) else some (a1, false))) else some (a1, false))) else some (a1, false))))))))))))))
-- lodger/hist.Replay
def hist_Replay_s0 (k0 : (List Int) → (List Call) → (List Int) → (List Int) → Int → Int → Conf → Option ((List Int) × Bool)) (s1 : (List Int)) (s2 : (List Call)) (s10 : (List Int)) (s16 : (List Int)) (s17 : Int) (s18 : Int) (m0 : Conf) : Option ((List Int) × Bool) := (bif (decide (s18 < s17)) then ((geti s16 s18).bind fun x1 => ((geti s2 x1).bind fun x2 => ((geti s2 x1).bind fun x3 => ((spec_Legal m0 s10 x2.ask x3.answer).bind fun r4 => (bif (not r4.2) then some (s1, false) else k0 s1 s2 r4.1 s16 s17 (IntKind.wrap .i64 (s18 + 1)) m0))))) else some (s10, true))
def hist_Replay_e (k0 : (List Int) → (List Call) → (List Int) → (List Int) → Int → Int → Conf → Option ((List Int) × Bool)) (a0 : Conf) (a1 : (List Int)) (a2 : (List Call)) (a3 : (List Int)) : Option ((List Int) × Bool) := k0 a1 a2 a1 a3 (List.length a3 : Int) 0 a0
def hist_Replay_l0 : Nat → (List Int) → (List Call) → (List Int) → (List Int) → Int → Int → Conf → Option ((List Int) × Bool)
  | 0 => fun _ _ _ _ _ _ _ => none
  | n + 1 => hist_Replay_s0 (hist_Replay_l0 n)
def hist_Replay_n (n : Nat) (a0 : Conf) (a1 : (List Int)) (a2 : (List Call)) (a3 : (List Int)) : Option ((List Int) × Bool) := hist_Replay_e (hist_Replay_l0 n) a0 a1 a2 a3
def hist_Replay (a0 : Conf) (a1 : (List Int)) (a2 : (List Call)) (a3 : (List Int)) : Option ((List Int) × Bool) := hist_Replay_n big a0 a1 a2 a3
theorem def_hist_Replay (a0 : Conf) (a1 : (List Int)) (a2 : (List Call)) (a3 : (List Int)) : hist_Replay a0 a1 a2 a3 = hist_Replay_n big a0 a1 a2 a3 := rfl
-- lodger/linz.Good
def linz_Good (a0 : Conf) (a1 : (List Int)) (a2 : (List Call)) (a3 : (List Int)) : Option (Bool) := ((linz_Whole a2 a3).bind fun r1 => (bif (not r1) then some false else ((hist_Replay a0 a1 a2 a3).bind fun r2 => some r2.2)))
-- slices.Concat[[]int,int]
def slices_Concat_s0 (k0 : (List (List Int)) → Int → (List (List Int)) → Int → Int → Option ((List Int))) (k1 : (List (List Int)) → Int → Int → (List Int) → Option ((List Int))) (s0 : (List (List Int))) (s3 : Int) (s9 : (List (List Int))) (s10 : Int) (s11 : Int) : Option ((List Int)) := (bif (decide (s11 < s10)) then ((geti s9 s11).bind fun x1 => (bif (decide ((IntKind.wrap .i64 (s3 + (List.length x1 : Int))) < 0)) then none else k0 s0 (IntKind.wrap .i64 (s3 + (List.length x1 : Int))) s9 s10 (IntKind.wrap .i64 (s11 + 1)))) else (bif (okLen s3) then k1 s0 (List.length s0 : Int) 0 ([] : (List Int)) else none))
def slices_Concat_s1 (k0 : (List (List Int)) → Int → (List (List Int)) → Int → Int → Option ((List Int))) (k1 : (List (List Int)) → Int → Int → (List Int) → Option ((List Int))) (s25 : (List (List Int))) (s26 : Int) (s27 : Int) (m0 : (List Int)) : Option ((List Int)) := (bif (decide (s27 < s26)) then ((geti s25 s27).bind fun x2 => (bif (decide (m0.length + x2.length ≤ maxList)) then k1 s25 s26 (IntKind.wrap .i64 (s27 + 1)) (m0 ++ x2) else none)) else some m0)
def slices_Concat_e (k0 : (List (List Int)) → Int → (List (List Int)) → Int → Int → Option ((List Int))) (k1 : (List (List Int)) → Int → Int → (List Int) → Option ((List Int))) (a0 : (List (List Int))) : Option ((List Int)) := k0 a0 0 a0 (List.length a0 : Int) 0
def slices_Concat_ls : Nat → ((List (List Int)) → Int → (List (List Int)) → Int → Int → Option ((List Int))) × ((List (List Int)) → Int → Int → (List Int) → Option ((List Int)))
  | 0 => (fun _ _ _ _ _ => none, fun _ _ _ _ => none)
  | n + 1 => (slices_Concat_s0 (slices_Concat_ls n).1 (slices_Concat_ls n).2, slices_Concat_s1 (slices_Concat_ls n).1 (slices_Concat_ls n).2)
def slices_Concat_l0 (n : Nat) : (List (List Int)) → Int → (List (List Int)) → Int → Int → Option ((List Int)) := (slices_Concat_ls n).1
def slices_Concat_l1 (n : Nat) : (List (List Int)) → Int → Int → (List Int) → Option ((List Int)) := (slices_Concat_ls n).2
theorem su0_slices_Concat (n : Nat) : slices_Concat_l0 (n + 1) = slices_Concat_s0 (slices_Concat_l0 n) (slices_Concat_l1 n) := rfl
theorem su1_slices_Concat (n : Nat) : slices_Concat_l1 (n + 1) = slices_Concat_s1 (slices_Concat_l0 n) (slices_Concat_l1 n) := rfl
def slices_Concat_n (n : Nat) (a0 : (List (List Int))) : Option ((List Int)) := slices_Concat_e (slices_Concat_l0 n) (slices_Concat_l1 n) a0
def slices_Concat (a0 : (List (List Int))) : Option ((List Int)) := slices_Concat_n big a0
theorem def_slices_Concat (a0 : (List (List Int))) : slices_Concat a0 = slices_Concat_n big a0 := rfl
-- lodger/linz.Find$1
def linz_Find_1_s0 (g_linz_Find_1 : (List Int) → (List Int) → (List Call) → Conf → Option ((List Int) × Bool)) (k0 : (List Int) → (List Int) → (List Call) → Int → Int → (List Call) → Conf → Option ((List Int) × Bool)) (k1 : (List Int) → (List Int) → Int → Bool → (List Call) → Int → Int → (List Call) → Int → Int → (List Call) → Conf → Call → Option ((List Int) × Bool)) (s0 : (List Int)) (s1 : (List Int)) (s22 : (List Call)) (s23 : Int) (s24 : Int) (m0_0 : (List Call)) (m1 : Conf) : Option ((List Int) × Bool) := (bif (decide (s24 < s23)) then ((geti s22 s24).bind fun x2 => ((linz_answered x2).bind fun r3 => (bif (not r3) then k1 s0 s1 s24 true s22 s23 s24 m0_0 (List.length m0_0 : Int) 0 m0_0 m1 x2 else ((slices_Contains s1 s24).bind fun r4 => k1 s0 s1 s24 r4 s22 s23 s24 m0_0 (List.length m0_0 : Int) 0 m0_0 m1 x2)))) else some ([], false))
def linz_Find_1_s1 (g_linz_Find_1 : (List Int) → (List Int) → (List Call) → Conf → Option ((List Int) × Bool)) (k0 : (List Int) → (List Int) → (List Call) → Int → Int → (List Call) → Conf → Option ((List Int) × Bool)) (k1 : (List Int) → (List Int) → Int → Bool → (List Call) → Int → Int → (List Call) → Int → Int → (List Call) → Conf → Call → Option ((List Int) × Bool)) (s0 : (List Int)) (s1 : (List Int)) (s9 : Int) (s11 : Bool) (s22 : (List Call)) (s23 : Int) (s24 : Int) (s37 : (List Call)) (s38 : Int) (s39 : Int) (m0_0 : (List Call)) (m1 : Conf) (m3 : Call) : Option ((List Int) × Bool) := (bif (decide (s39 < s38)) then ((geti s37 s39).bind fun x5 => (bif s11 then k1 s0 s1 s9 true s22 s23 s24 s37 s38 (IntKind.wrap .i64 (s39 + 1)) m0_0 m1 m3 else (bif (s39 != s9) then ((linz_ahead x5 m3).bind fun r6 => (bif r6 then ((slices_Contains s1 s39).bind fun r7 => k1 s0 s1 s9 (not r7) s22 s23 s24 s37 s38 (IntKind.wrap .i64 (s39 + 1)) m0_0 m1 m3) else k1 s0 s1 s9 false s22 s23 s24 s37 s38 (IntKind.wrap .i64 (s39 + 1)) m0_0 m1 m3)) else k1 s0 s1 s9 false s22 s23 s24 s37 s38 (IntKind.wrap .i64 (s39 + 1)) m0_0 m1 m3))) else (bif s11 then k0 s0 s1 s22 s23 (IntKind.wrap .i64 (s24 + 1)) m0_0 m1 else ((spec_Legal m1 s0 m3.ask m3.answer).bind fun r8 => (bif (not r8.2) then k0 s0 s1 s22 s23 (IntKind.wrap .i64 (s24 + 1)) m0_0 m1 else ((slices_Concat ([s1, ([s9] : List Int)] : List (List Int))).bind fun r9 => ((g_linz_Find_1 r8.1 r9 m0_0 m1).bind fun r10 => (bif r10.2 then some (r10.1, true) else k0 s0 s1 s22 s23 (IntKind.wrap .i64 (s24 + 1)) m0_0 m1)))))))
def linz_Find_1_e (g_linz_Find_1 : (List Int) → (List Int) → (List Call) → Conf → Option ((List Int) × Bool)) (k0 : (List Int) → (List Int) → (List Call) → Int → Int → (List Call) → Conf → Option ((List Int) × Bool)) (k1 : (List Int) → (List Int) → Int → Bool → (List Call) → Int → Int → (List Call) → Int → Int → (List Call) → Conf → Call → Option ((List Int) × Bool)) (a0 : (List Int)) (a1 : (List Int)) (a2 : (List Call)) (a3 : Conf) : Option ((List Int) × Bool) := ((linz_Whole a2 a1).bind fun r1 => (bif r1 then some (a1, true) else k0 a0 a1 a2 (List.length a2 : Int) 0 a2 a3))
def linz_Find_1_ls (g_linz_Find_1 : (List Int) → (List Int) → (List Call) → Conf → Option ((List Int) × Bool)) : Nat → ((List Int) → (List Int) → (List Call) → Int → Int → (List Call) → Conf → Option ((List Int) × Bool)) × ((List Int) → (List Int) → Int → Bool → (List Call) → Int → Int → (List Call) → Int → Int → (List Call) → Conf → Call → Option ((List Int) × Bool))
  | 0 => (fun _ _ _ _ _ _ _ => none, fun _ _ _ _ _ _ _ _ _ _ _ _ _ => none)
  | n + 1 => (linz_Find_1_s0 g_linz_Find_1 (linz_Find_1_ls g_linz_Find_1 n).1 (linz_Find_1_ls g_linz_Find_1 n).2, linz_Find_1_s1 g_linz_Find_1 (linz_Find_1_ls g_linz_Find_1 n).1 (linz_Find_1_ls g_linz_Find_1 n).2)
def linz_Find_1_l0 (g_linz_Find_1 : (List Int) → (List Int) → (List Call) → Conf → Option ((List Int) × Bool)) (n : Nat) : (List Int) → (List Int) → (List Call) → Int → Int → (List Call) → Conf → Option ((List Int) × Bool) := (linz_Find_1_ls g_linz_Find_1 n).1
def linz_Find_1_l1 (g_linz_Find_1 : (List Int) → (List Int) → (List Call) → Conf → Option ((List Int) × Bool)) (n : Nat) : (List Int) → (List Int) → Int → Bool → (List Call) → Int → Int → (List Call) → Int → Int → (List Call) → Conf → Call → Option ((List Int) × Bool) := (linz_Find_1_ls g_linz_Find_1 n).2
theorem su0_linz_Find_1 (g_linz_Find_1 : (List Int) → (List Int) → (List Call) → Conf → Option ((List Int) × Bool)) (n : Nat) : linz_Find_1_l0 g_linz_Find_1 (n + 1) = linz_Find_1_s0 g_linz_Find_1 (linz_Find_1_l0 g_linz_Find_1 n) (linz_Find_1_l1 g_linz_Find_1 n) := rfl
theorem su1_linz_Find_1 (g_linz_Find_1 : (List Int) → (List Int) → (List Call) → Conf → Option ((List Int) × Bool)) (n : Nat) : linz_Find_1_l1 g_linz_Find_1 (n + 1) = linz_Find_1_s1 g_linz_Find_1 (linz_Find_1_l0 g_linz_Find_1 n) (linz_Find_1_l1 g_linz_Find_1 n) := rfl
def linz_Find_1_n (g_linz_Find_1 : (List Int) → (List Int) → (List Call) → Conf → Option ((List Int) × Bool)) (n : Nat) (a0 : (List Int)) (a1 : (List Int)) (a2 : (List Call)) (a3 : Conf) : Option ((List Int) × Bool) := linz_Find_1_e g_linz_Find_1 (linz_Find_1_l0 g_linz_Find_1 n) (linz_Find_1_l1 g_linz_Find_1 n) a0 a1 a2 a3
def linz_Find_1_q (g_linz_Find_1 : (List Int) → (List Int) → (List Call) → Conf → Option ((List Int) × Bool)) (a0 : (List Int)) (a1 : (List Int)) (a2 : (List Call)) (a3 : Conf) : Option ((List Int) × Bool) := linz_Find_1_n g_linz_Find_1 big a0 a1 a2 a3
theorem def_linz_Find_1 (g_linz_Find_1 : (List Int) → (List Int) → (List Call) → Conf → Option ((List Int) × Bool)) (a0 : (List Int)) (a1 : (List Int)) (a2 : (List Call)) (a3 : Conf) : linz_Find_1_q g_linz_Find_1 a0 a1 a2 a3 = linz_Find_1_n g_linz_Find_1 big a0 a1 a2 a3 := rfl
def linz_Find_1_r : Nat → (List Int) → (List Int) → (List Call) → Conf → Option ((List Int) × Bool)
  | 0 => fun _ _ _ _ => none
  | n + 1 => linz_Find_1_q (linz_Find_1_r n)
theorem linz_Find_1_ru (n : Nat) : linz_Find_1_r (n + 1) = linz_Find_1_q (linz_Find_1_r n) := rfl
def linz_Find_1 (a0 : (List Int)) (a1 : (List Int)) (a2 : (List Call)) (a3 : Conf) : Option ((List Int) × Bool) := linz_Find_1_r big a0 a1 a2 a3
-- lodger/linz.Find
def linz_Find (a0 : Conf) (a1 : (List Int)) (a2 : (List Call)) : Option ((List Int) × Bool) := ((linz_Find_1 a1 ([] : (List Int)) a2 a0).bind fun r1 => some (r1.1, r1.2))
-- lodger/lodgerlaw25.awake
def lodgerlaw25_awake  : Option (Bool) := ((linz_Find (⟨⟨4, 30⟩, [], 1, 1, 1, 2⟩ : Conf) ([] : (List Int)) ([(⟨0, ⟨2, 5, []⟩, 0, 5, ⟨0, 5, false, [], []⟩⟩ : Call), (⟨0, ⟨2, 5, []⟩, 1, 4, ⟨0, 5, false, [], []⟩⟩ : Call)] : List Call)).bind fun r1 => ((linz_Find (⟨⟨4, 30⟩, [], 1, 1, 1, 2⟩ : Conf) ([] : (List Int)) ([(⟨0, ⟨2, 5, []⟩, 0, 5, ⟨5, 0, false, [], []⟩⟩ : Call), (⟨0, ⟨2, 5, []⟩, 1, 4, ⟨0, 5, false, [], []⟩⟩ : Call)] : List Call)).bind fun r2 => ((linz_Find (⟨⟨4, 30⟩, [], 1, 1, 1, 2⟩ : Conf) ([] : (List Int)) ([(⟨0, ⟨2, 5, []⟩, 0, 1, ⟨5, 0, false, [], []⟩⟩ : Call), (⟨0, ⟨2, 5, []⟩, 2, 4, ⟨0, 5, false, [], []⟩⟩ : Call)] : List Call)).bind fun r3 => (bif (not r1.2) then (bif r2.2 then ((lodgerref03_Ints r2.1 ([1, 0] : List Int)).bind fun r4 => (bif r4 then (bif (not r3.2) then ((linz_Good (⟨⟨4, 30⟩, [], 1, 1, 1, 2⟩ : Conf) ([] : (List Int)) ([(⟨0, ⟨2, 5, []⟩, 0, 5, ⟨5, 0, false, [], []⟩⟩ : Call), (⟨0, ⟨2, 5, []⟩, 1, 4, ⟨0, 5, false, [], []⟩⟩ : Call)] : List Call) ([1, 0] : List Int)).bind fun r5 => (bif r5 then ((linz_Good (⟨⟨4, 30⟩, [], 1, 1, 1, 2⟩ : Conf) ([] : (List Int)) ([(⟨0, ⟨2, 5, []⟩, 0, 5, ⟨5, 0, false, [], []⟩⟩ : Call), (⟨0, ⟨2, 5, []⟩, 1, 4, ⟨0, 5, false, [], []⟩⟩ : Call)] : List Call) ([0, 1] : List Int)).bind fun r6 => (bif (not r6) then ((linz_Whole ([(⟨0, ⟨2, 5, []⟩, 0, 1, ⟨5, 0, false, [], []⟩⟩ : Call), (⟨0, ⟨2, 5, []⟩, 2, 4, ⟨0, 5, false, [], []⟩⟩ : Call)] : List Call) ([1, 0] : List Int)).bind fun r7 => (bif (not r7) then ((linz_Good (⟨⟨4, 30⟩, [], 1, 1, 1, 2⟩ : Conf) ([] : (List Int)) ([] : (List Call)) ([] : (List Int))).bind fun r8 => (bif r8 then ((linz_Whole ([(⟨0, ⟨2, 5, []⟩, 0, 5, ⟨5, 0, false, [], []⟩⟩ : Call), (⟨0, ⟨2, 5, []⟩, 1, 4, ⟨0, 5, false, [], []⟩⟩ : Call)] : List Call) ([1] : List Int)).bind fun r9 => some (not r9)) else some false)) else some false)) else some false)) else some false)) else some false) else some false)) else some false) else some false))))
-- lodger/lodgerref09.May
def lodgerref09_May_s0 (k0 : (List Int) → Int → Conf → Option (Bool)) (s1 : (List Int)) (s5 : Int) (m0 : Conf) : Option (Bool) := (bif (decide (s5 < (List.length s1 : Int))) then ((geti s1 s5).bind fun x1 => (bif (decide (x1 < 0)) then some false else ((geti s1 s5).bind fun x2 => ((lodgerref05_Many m0.block).bind fun r3 => (bif (decide (x2 ≥ r3)) then some false else ((geti s1 s5).bind fun x4 => ((lodgerref05_Held m0 x4).bind fun r5 => (bif r5 then some false else (bif (decide (s5 > 0)) then ((geti s1 (IntKind.wrap .i64 (s5 - 1))).bind fun x6 => ((geti s1 s5).bind fun x7 => (bif (decide (x6 ≥ x7)) then some false else k0 s1 (IntKind.wrap .i64 (s5 + 1)) m0))) else k0 s1 (IntKind.wrap .i64 (s5 + 1)) m0))))))))) else some true)
def lodgerref09_May_e (k0 : (List Int) → Int → Conf → Option (Bool)) (a0 : Conf) (a1 : (List Int)) : Option (Bool) := k0 a1 0 a0
def lodgerref09_May_l0 : Nat → (List Int) → Int → Conf → Option (Bool)
  | 0 => fun _ _ _ => none
  | n + 1 => lodgerref09_May_s0 (lodgerref09_May_l0 n)
theorem su0_lodgerref09_May (n : Nat) : lodgerref09_May_l0 (n + 1) = lodgerref09_May_s0 (lodgerref09_May_l0 n) := rfl
def lodgerref09_May_n (n : Nat) (a0 : Conf) (a1 : (List Int)) : Option (Bool) := lodgerref09_May_e (lodgerref09_May_l0 n) a0 a1
def lodgerref09_May (a0 : Conf) (a1 : (List Int)) : Option (Bool) := lodgerref09_May_n big a0 a1
theorem def_lodgerref09_May (a0 : Conf) (a1 : (List Int)) : lodgerref09_May a0 a1 = lodgerref09_May_n big a0 a1 := rfl
-- lodger/lodgerref11.Fits
def lodgerref11_Fits (a0 : Conf) (a1 : (List Int)) : Option (Bool) := ((lodgerref05_May a0).bind fun r1 => (bif r1 then ((lodgerref05_Many a0.block).bind fun r2 => (bif (decide (r2 ≤ 256)) then (bif (decide ((List.length a1 : Int) ≤ 300)) then ((lodgerref09_May a0 a1).bind fun r3 => some r3) else some false) else some false)) else some false))
-- lodger/lodgerref25.Few
def lodgerref25_Few_s0 (k0 : (List Call) → Int → Int → Option (Bool)) (s0 : (List Call)) (s1 : Int) (s5 : Int) : Option (Bool) := (bif (decide (s5 < (List.length s0 : Int))) then (bif (decide (s5 < 100)) then ((geti s0 s5).bind fun x1 => (bif (decide ((List.length x1.ask.addrs : Int) > 100)) then some false else ((geti s0 s5).bind fun x2 => (bif (decide ((List.length x2.answer.addrs : Int) > 300)) then some false else ((geti s0 s5).bind fun x3 => (bif (decide ((List.length x3.answer.errs : Int) > 300)) then some false else k0 s0 s1 (IntKind.wrap .i64 (s5 + 1)))))))) else some (decide ((List.length s0 : Int) ≤ s1))) else some (decide ((List.length s0 : Int) ≤ s1)))
def lodgerref25_Few_e (k0 : (List Call) → Int → Int → Option (Bool)) (a0 : (List Call)) (a1 : Int) : Option (Bool) := k0 a0 a1 0
def lodgerref25_Few_l0 : Nat → (List Call) → Int → Int → Option (Bool)
  | 0 => fun _ _ _ => none
  | n + 1 => lodgerref25_Few_s0 (lodgerref25_Few_l0 n)
theorem su0_lodgerref25_Few (n : Nat) : lodgerref25_Few_l0 (n + 1) = lodgerref25_Few_s0 (lodgerref25_Few_l0 n) := rfl
def lodgerref25_Few_n (n : Nat) (a0 : (List Call)) (a1 : Int) : Option (Bool) := lodgerref25_Few_e (lodgerref25_Few_l0 n) a0 a1
def lodgerref25_Few (a0 : (List Call)) (a1 : Int) : Option (Bool) := lodgerref25_Few_n big a0 a1
theorem def_lodgerref25_Few (a0 : (List Call)) (a1 : Int) : lodgerref25_Few a0 a1 = lodgerref25_Few_n big a0 a1 := rfl
-- lodger/lodgerref09.Without
def lodgerref09_Without_s0 (k0 : (List Int) → Int → Int → (List Int) → Option ((List Int))) (s0 : (List Int)) (s1 : Int) (s6 : Int) (m0 : (List Int)) : Option ((List Int)) := (bif (decide (s6 < (List.length s0 : Int))) then ((geti s0 s6).bind fun x1 => (bif (x1 != s1) then ((geti s0 s6).bind fun x2 => (bif (decide (m0.length + ([x2] : List Int).length ≤ maxList)) then k0 s0 s1 (IntKind.wrap .i64 (s6 + 1)) (m0 ++ ([x2] : List Int)) else none)) else k0 s0 s1 (IntKind.wrap .i64 (s6 + 1)) m0)) else some m0)
def lodgerref09_Without_e (k0 : (List Int) → Int → Int → (List Int) → Option ((List Int))) (a0 : (List Int)) (a1 : Int) : Option ((List Int)) := k0 a0 a1 0 ([] : (List Int))
def lodgerref09_Without_l0 : Nat → (List Int) → Int → Int → (List Int) → Option ((List Int))
  | 0 => fun _ _ _ _ => none
  | n + 1 => lodgerref09_Without_s0 (lodgerref09_Without_l0 n)
theorem su0_lodgerref09_Without (n : Nat) : lodgerref09_Without_l0 (n + 1) = lodgerref09_Without_s0 (lodgerref09_Without_l0 n) := rfl
def lodgerref09_Without_n (n : Nat) (a0 : (List Int)) (a1 : Int) : Option ((List Int)) := lodgerref09_Without_e (lodgerref09_Without_l0 n) a0 a1
def lodgerref09_Without (a0 : (List Int)) (a1 : Int) : Option ((List Int)) := lodgerref09_Without_n big a0 a1
theorem def_lodgerref09_Without (a0 : (List Int)) (a1 : Int) : lodgerref09_Without a0 a1 = lodgerref09_Without_n big a0 a1 := rfl
-- lodger/lodgerref09.Addrs
def lodgerref09_Addrs_s0 (k0 : (List Int) → Int → Conf → (List Int) → Option ((List Int))) (s1 : (List Int)) (s6 : Int) (m0 : Conf) (m1 : (List Int)) : Option ((List Int)) := (bif (decide (s6 < (List.length s1 : Int))) then ((geti s1 s6).bind fun x1 => (bif (decide (m1.length + ([(IntKind.wrap .u32 (m0.block.base + (IntKind.wrap .u32 x1)))] : List Int).length ≤ maxList)) then k0 s1 (IntKind.wrap .i64 (s6 + 1)) m0 (m1 ++ ([(IntKind.wrap .u32 (m0.block.base + (IntKind.wrap .u32 x1)))] : List Int)) else none)) else some m1)
def lodgerref09_Addrs_e (k0 : (List Int) → Int → Conf → (List Int) → Option ((List Int))) (a0 : Conf) (a1 : (List Int)) : Option ((List Int)) := k0 a1 0 a0 ([] : (List Int))
def lodgerref09_Addrs_l0 : Nat → (List Int) → Int → Conf → (List Int) → Option ((List Int))
  | 0 => fun _ _ _ _ => none
  | n + 1 => lodgerref09_Addrs_s0 (lodgerref09_Addrs_l0 n)
theorem su0_lodgerref09_Addrs (n : Nat) : lodgerref09_Addrs_l0 (n + 1) = lodgerref09_Addrs_s0 (lodgerref09_Addrs_l0 n) := rfl
def lodgerref09_Addrs_n (n : Nat) (a0 : Conf) (a1 : (List Int)) : Option ((List Int)) := lodgerref09_Addrs_e (lodgerref09_Addrs_l0 n) a0 a1
def lodgerref09_Addrs (a0 : Conf) (a1 : (List Int)) : Option ((List Int)) := lodgerref09_Addrs_n big a0 a1
theorem def_lodgerref09_Addrs (a0 : Conf) (a1 : (List Int)) : lodgerref09_Addrs a0 a1 = lodgerref09_Addrs_n big a0 a1 := rfl
-- lodger/lodgerref11.only
def lodgerref11_only (a0 : Answer) (a1 : Int) : Option (Bool) := ((lodgerref08_Answers a0 (⟨a1, 0, false, [], []⟩ : Answer)).bind fun r1 => some r1)
-- lodger/lodgerref09.Full
def lodgerref09_Full_s0 (k0 : (List Int) → Int → Conf → Option (Bool)) (s1 : (List Int)) (s5 : Int) (m0 : Conf) : Option (Bool) := ((lodgerref05_Many m0.block).bind fun r1 => (bif (decide (s5 < r1)) then ((lodgerref05_Held m0 s5).bind fun r2 => (bif (not r2) then ((lodgerref09_Has s1 s5).bind fun r3 => (bif (not r3) then some false else k0 s1 (IntKind.wrap .i64 (s5 + 1)) m0)) else k0 s1 (IntKind.wrap .i64 (s5 + 1)) m0)) else some true))
def lodgerref09_Full_e (k0 : (List Int) → Int → Conf → Option (Bool)) (a0 : Conf) (a1 : (List Int)) : Option (Bool) := k0 a1 0 a0
def lodgerref09_Full_l0 : Nat → (List Int) → Int → Conf → Option (Bool)
  | 0 => fun _ _ _ => none
  | n + 1 => lodgerref09_Full_s0 (lodgerref09_Full_l0 n)
theorem su0_lodgerref09_Full (n : Nat) : lodgerref09_Full_l0 (n + 1) = lodgerref09_Full_s0 (lodgerref09_Full_l0 n) := rfl
def lodgerref09_Full_n (n : Nat) (a0 : Conf) (a1 : (List Int)) : Option (Bool) := lodgerref09_Full_e (lodgerref09_Full_l0 n) a0 a1
def lodgerref09_Full (a0 : Conf) (a1 : (List Int)) : Option (Bool) := lodgerref09_Full_n big a0 a1
theorem def_lodgerref09_Full (a0 : Conf) (a1 : (List Int)) : lodgerref09_Full a0 a1 = lodgerref09_Full_n big a0 a1 := rfl
-- lodger/lodgerref11.Legal
def lodgerref11_Legal_s0 (k0 : (List Int) → (List Int) → Int → Conf → Ask → Answer → (List Int) → Option ((List Int) × Bool)) (s1 : (List Int)) (s16 : (List Int)) (s18 : Int) (m0 : Conf) (m1 : Ask) (m2 : Answer) (m3 : (List Int)) : Option ((List Int) × Bool) := (bif (decide (s18 < (List.length m1.addrs : Int))) then ((geti m1.addrs s18).bind fun x24 => ((lodgerref05_Offset m0.block x24).bind fun r25 => ((lodgerref09_Has s16 r25.1).bind fun r26 => (bif r26 then (bif (decide (m3.length + ([0] : List Int).length ≤ maxList)) then ((lodgerref09_Without s16 r25.1).bind fun r27 => k0 s1 r27 (IntKind.wrap .i64 (s18 + 1)) m0 m1 m2 (m3 ++ ([0] : List Int))) else none) else (bif (decide (m3.length + ([6] : List Int).length ≤ maxList)) then ((lodgerref09_Without s16 r25.1).bind fun r28 => k0 s1 r28 (IntKind.wrap .i64 (s18 + 1)) m0 m1 m2 (m3 ++ ([6] : List Int))) else none))))) else ((lodgerref08_Answers m2 (⟨0, 0, false, [], m3⟩ : Answer)).bind fun r29 => (bif (not r29) then some (s1, false) else some (s16, true))))
def lodgerref11_Legal_e (k0 : (List Int) → (List Int) → Int → Conf → Ask → Answer → (List Int) → Option ((List Int) × Bool)) (a0 : Conf) (a1 : (List Int)) (a2 : Ask) (a3 : Answer) : Option ((List Int) × Bool) := ((lodgerref11_only a3 10).bind fun r1 => (bif r1 then some (a1, true) else ((lodgerref11_only a3 12).bind fun r2 => (bif r2 then some (a1, true) else ((lodgerref10_Check a0 a2).bind fun r3 => (bif (r3 != 0) then ((lodgerref11_only a3 r3).bind fun r4 => some (a1, r4)) else ((lodgerref05_Offset a0.block a2.addr).bind fun r5 => ((lodgerref09_Has a1 r5.1).bind fun r6 => (bif (a2.kind == 1) then ((lodgerref11_only a3 9).bind fun r7 => (bif r7 then ((lodgerref09_Full a0 a1).bind fun r8 => some (a1, r8)) else ((lodgerref05_Find a0 a3.addr).bind fun r9 => ((lodgerref08_Answers a3 (⟨0, a3.addr, false, [], []⟩ : Answer)).bind fun r10 => (bif (not r10) then some (a1, false) else (bif (r9.2 != 0) then some (a1, false) else ((lodgerref09_Has a1 r9.1).bind fun r11 => (bif r11 then some (a1, false) else ((lodgerref09_With a1 r9.1).bind fun r12 => some (r12, true)))))))))) else (bif (a2.kind == 2) then (bif r6 then ((lodgerref11_only a3 5).bind fun r13 => some (a1, r13)) else ((lodgerref08_Answers a3 (⟨0, a2.addr, false, [], []⟩ : Answer)).bind fun r14 => (bif (not r14) then some (a1, false) else ((lodgerref09_With a1 r5.1).bind fun r15 => some (r15, true))))) else (bif (a2.kind == 3) then (bif (not r6) then ((lodgerref11_only a3 6).bind fun r16 => some (a1, r16)) else ((lodgerref11_only a3 0).bind fun r17 => (bif (not r17) then some (a1, false) else ((lodgerref09_Without a1 r5.1).bind fun r18 => some (r18, true))))) else (bif (a2.kind == 4) then k0 a1 a1 0 a0 a2 a3 ([] : (List Int)) else (bif (a2.kind == 5) then ((lodgerref08_Answers a3 (⟨0, 0, r6, [], []⟩ : Answer)).bind fun r19 => some (a1, r19)) else (bif (a2.kind == 6) then ((lodgerref11_only a3 11).bind fun r20 => (bif r20 then some (a1, true) else ((lodgerref09_Addrs a0 a1).bind fun r21 => ((lodgerref08_Answers a3 (⟨0, 0, false, r21, []⟩ : Answer)).bind fun r22 => some (a1, r22))))) else ((lodgerref11_only a3 0).bind fun r23 => some (a1, r23))))))))))))))))
def lodgerref11_Legal_l0 : Nat → (List Int) → (List Int) → Int → Conf → Ask → Answer → (List Int) → Option ((List Int) × Bool)
  | 0 => fun _ _ _ _ _ _ _ => none
  | n + 1 => lodgerref11_Legal_s0 (lodgerref11_Legal_l0 n)
theorem su0_lodgerref11_Legal (n : Nat) : lodgerref11_Legal_l0 (n + 1) = lodgerref11_Legal_s0 (lodgerref11_Legal_l0 n) := rfl
def lodgerref11_Legal_n (n : Nat) (a0 : Conf) (a1 : (List Int)) (a2 : Ask) (a3 : Answer) : Option ((List Int) × Bool) := lodgerref11_Legal_e (lodgerref11_Legal_l0 n) a0 a1 a2 a3
def lodgerref11_Legal (a0 : Conf) (a1 : (List Int)) (a2 : Ask) (a3 : Answer) : Option ((List Int) × Bool) := lodgerref11_Legal_n big a0 a1 a2 a3
theorem def_lodgerref11_Legal (a0 : Conf) (a1 : (List Int)) (a2 : Ask) (a3 : Answer) : lodgerref11_Legal a0 a1 a2 a3 = lodgerref11_Legal_n big a0 a1 a2 a3 := rfl
end Go.Lv.Ld
namespace Go.Lv.Ld
open Go Go.Lv
set_option linter.all false
set_option maxRecDepth 100000
-- lodger/lodgerref11.Some
def lodgerref11_Some_s0 (k0 : (List Int) → Int → Conf → Ask → Answer → Option ((List Int) × Answer)) (k1 : (List Int) → Int → Conf → Ask → Answer → (List Int) → Option ((List Int) × Answer)) (s1 : (List Int)) (s12 : Int) (m0 : Conf) (m1 : Ask) (m2 : Answer) : Option ((List Int) × Answer) := ((lodgerref05_Many m0.block).bind fun r7 => (bif (decide (s12 < r7)) then ((lodgerref11_Legal m0 s1 m1 (⟨0, (IntKind.wrap .u32 (m0.block.base + (IntKind.wrap .u32 s12))), false, [], []⟩ : Answer)).bind fun r8 => (bif r8.2 then some (r8.1, (⟨0, (IntKind.wrap .u32 (m0.block.base + (IntKind.wrap .u32 s12))), false, [], []⟩ : Answer)) else k0 s1 (IntKind.wrap .i64 (s12 + 1)) m0 m1 m2)) else some (s1, (⟨9, 0, false, [], []⟩ : Answer))))
def lodgerref11_Some_s1 (k0 : (List Int) → Int → Conf → Ask → Answer → Option ((List Int) × Answer)) (k1 : (List Int) → Int → Conf → Ask → Answer → (List Int) → Option ((List Int) × Answer)) (s17 : (List Int)) (s18 : Int) (m0 : Conf) (m1 : Ask) (m2 : Answer) (m3 : (List Int)) : Option ((List Int) × Answer) := (bif (decide (s18 < (List.length m1.addrs : Int))) then ((geti m1.addrs s18).bind fun x9 => ((lodgerref05_Offset m0.block x9).bind fun r10 => ((lodgerref09_Has s17 r10.1).bind fun r11 => (bif r11 then (bif (decide (m3.length + ([0] : List Int).length ≤ maxList)) then ((lodgerref09_Without s17 r10.1).bind fun r12 => k1 r12 (IntKind.wrap .i64 (s18 + 1)) m0 m1 m2 (m3 ++ ([0] : List Int))) else none) else (bif (decide (m3.length + ([6] : List Int).length ≤ maxList)) then ((lodgerref09_Without s17 r10.1).bind fun r13 => k1 r13 (IntKind.wrap .i64 (s18 + 1)) m0 m1 m2 (m3 ++ ([6] : List Int))) else none))))) else some (s17, (⟨0, 0, false, [], m3⟩ : Answer)))
def lodgerref11_Some_e (k0 : (List Int) → Int → Conf → Ask → Answer → Option ((List Int) × Answer)) (k1 : (List Int) → Int → Conf → Ask → Answer → (List Int) → Option ((List Int) × Answer)) (a0 : Conf) (a1 : (List Int)) (a2 : Ask) : Option ((List Int) × Answer) := ((lodgerref10_Check a0 a2).bind fun r1 => (bif (r1 != 0) then some (a1, (⟨r1, 0, false, [], []⟩ : Answer)) else ((lodgerref05_Offset a0.block a2.addr).bind fun r2 => ((lodgerref09_Has a1 r2.1).bind fun r3 => (bif (a2.kind == 1) then k0 a1 0 a0 a2 (⟨0, 0, false, [], []⟩ : Answer) else (bif (a2.kind == 2) then (bif r3 then some (a1, (⟨5, 0, false, [], []⟩ : Answer)) else ((lodgerref09_With a1 r2.1).bind fun r4 => some (r4, (⟨0, a2.addr, false, [], []⟩ : Answer)))) else (bif (a2.kind == 3) then (bif (not r3) then some (a1, (⟨6, 0, false, [], []⟩ : Answer)) else ((lodgerref09_Without a1 r2.1).bind fun r5 => some (r5, (⟨0, 0, false, [], []⟩ : Answer)))) else (bif (a2.kind == 4) then k1 a1 0 a0 a2 (⟨0, 0, false, [], []⟩ : Answer) ([] : (List Int)) else (bif (a2.kind == 5) then some (a1, (⟨0, 0, r3, [], []⟩ : Answer)) else (bif (a2.kind == 6) then ((lodgerref09_Addrs a0 a1).bind fun r6 => some (a1, (⟨0, 0, false, r6, []⟩ : Answer))) else some (a1, (⟨0, 0, false, [], []⟩ : Answer))))))))))))
def lodgerref11_Some_ls : Nat → ((List Int) → Int → Conf → Ask → Answer → Option ((List Int) × Answer)) × ((List Int) → Int → Conf → Ask → Answer → (List Int) → Option ((List Int) × Answer))
  | 0 => (fun _ _ _ _ _ => none, fun _ _ _ _ _ _ => none)
  | n + 1 => (lodgerref11_Some_s0 (lodgerref11_Some_ls n).1 (lodgerref11_Some_ls n).2, lodgerref11_Some_s1 (lodgerref11_Some_ls n).1 (lodgerref11_Some_ls n).2)
def lodgerref11_Some_l0 (n : Nat) : (List Int) → Int → Conf → Ask → Answer → Option ((List Int) × Answer) := (lodgerref11_Some_ls n).1
def lodgerref11_Some_l1 (n : Nat) : (List Int) → Int → Conf → Ask → Answer → (List Int) → Option ((List Int) × Answer) := (lodgerref11_Some_ls n).2
theorem su0_lodgerref11_Some (n : Nat) : lodgerref11_Some_l0 (n + 1) = lodgerref11_Some_s0 (lodgerref11_Some_l0 n) (lodgerref11_Some_l1 n) := rfl
theorem su1_lodgerref11_Some (n : Nat) : lodgerref11_Some_l1 (n + 1) = lodgerref11_Some_s1 (lodgerref11_Some_l0 n) (lodgerref11_Some_l1 n) := rfl
def lodgerref11_Some_n (n : Nat) (a0 : Conf) (a1 : (List Int)) (a2 : Ask) : Option ((List Int) × Answer) := lodgerref11_Some_e (lodgerref11_Some_l0 n) (lodgerref11_Some_l1 n) a0 a1 a2
def lodgerref11_Some (a0 : Conf) (a1 : (List Int)) (a2 : Ask) : Option ((List Int) × Answer) := lodgerref11_Some_n big a0 a1 a2
theorem def_lodgerref11_Some (a0 : Conf) (a1 : (List Int)) (a2 : Ask) : lodgerref11_Some a0 a1 a2 = lodgerref11_Some_n big a0 a1 a2 := rfl
-- lodger/lodgerlaw25.LinzApart
def lodgerlaw25_LinzApart_s0 (k0 : (List Int) → (List Call) → Int → (List Int) → Int → Conf → (List Call) → (List Int) → Option (Bool)) (k1 : (List Int) → Int → Conf → (List Call) → (List Int) → Option (Bool)) (s1 : (List Int)) (s2 : (List Call)) (s3 : Int) (s11 : (List Int)) (s12 : Int) (m0 : Conf) (m1 : (List Call)) (m2 : (List Int)) : Option (Bool) := (bif (decide (s12 < (List.length s2 : Int))) then ((geti s2 s12).bind fun x7 => ((lodgerref11_Some m0 s11 x7.ask).bind fun r8 => ((geti s2 s12).bind fun x9 => (bif (decide (m1.length + ([(⟨0, x9.ask, (IntKind.wrap .i64 (2 * s12)), (IntKind.wrap .i64 ((IntKind.wrap .i64 (2 * s12)) + 1)), r8.2⟩ : Call)] : List Call).length ≤ maxList)) then (bif (decide (m2.length + ([s12] : List Int).length ≤ maxList)) then k0 s1 s2 s3 r8.1 (IntKind.wrap .i64 (s12 + 1)) m0 (m1 ++ ([(⟨0, x9.ask, (IntKind.wrap .i64 (2 * s12)), (IntKind.wrap .i64 ((IntKind.wrap .i64 (2 * s12)) + 1)), r8.2⟩ : Call)] : List Call)) (m2 ++ ([s12] : List Int)) else none) else none)))) else k1 s1 s3 m0 m1 m2)
def lodgerlaw25_LinzApart_s1 (k0 : (List Int) → (List Call) → Int → (List Int) → Int → Conf → (List Call) → (List Int) → Option (Bool)) (k1 : (List Int) → Int → Conf → (List Call) → (List Int) → Option (Bool)) (s1 : (List Int)) (s3 : Int) (m0 : Conf) (m1 : (List Call)) (m2 : (List Int)) : Option (Bool) := ((linz_Find m0 s1 m1).bind fun r10 => (bif (not r10.2) then some false else ((lodgerref03_Ints r10.1 m2).bind fun r11 => (bif (not r11) then some false else (bif ((List.length m1 : Int) == 0) then some true else (bif ((List.length m1 : Int) == 0) then none else (bif (decide (0 ≤ (Int.tmod (IntKind.wrap .i64 s3) (List.length m1 : Int)) ∧ (Int.tmod (IntKind.wrap .i64 s3) (List.length m1 : Int)) < (m1.length : Int))) then ((m1[(Int.tmod (IntKind.wrap .i64 s3) (List.length m1 : Int)).toNat]?).bind fun x12 => ((linz_Find m0 s1 (m1.set ((Int.tmod (IntKind.wrap .i64 s3) (List.length m1 : Int)).toNat) ({ x12 with answer := ⟨2, 0, false, [], []⟩ } : Call))).bind fun r13 => some (not r13.2))) else none)))))))
def lodgerlaw25_LinzApart_e (k0 : (List Int) → (List Call) → Int → (List Int) → Int → Conf → (List Call) → (List Int) → Option (Bool)) (k1 : (List Int) → Int → Conf → (List Call) → (List Int) → Option (Bool)) (a0 : Conf) (a1 : (List Int)) (a2 : (List Call)) (a3 : Int) : Option (Bool) := (lodgerlaw25_awake.bind fun r1 => (bif (not r1) then (lodgerlaw25_awake.bind fun r2 => some r2) else ((lodgerref11_Fits a0 a1).bind fun r3 => (bif (not r3) then (lodgerlaw25_awake.bind fun r4 => some r4) else ((lodgerref25_Few a2 5).bind fun r5 => (bif (not r5) then (lodgerlaw25_awake.bind fun r6 => some r6) else k0 a1 a2 a3 a1 0 a0 ([] : (List Call)) ([] : (List Int))))))))
def lodgerlaw25_LinzApart_ls : Nat → ((List Int) → (List Call) → Int → (List Int) → Int → Conf → (List Call) → (List Int) → Option (Bool)) × ((List Int) → Int → Conf → (List Call) → (List Int) → Option (Bool))
  | 0 => (fun _ _ _ _ _ _ _ _ => none, fun _ _ _ _ _ => none)
  | n + 1 => (lodgerlaw25_LinzApart_s0 (lodgerlaw25_LinzApart_ls n).1 (lodgerlaw25_LinzApart_ls n).2, lodgerlaw25_LinzApart_s1 (lodgerlaw25_LinzApart_ls n).1 (lodgerlaw25_LinzApart_ls n).2)
def lodgerlaw25_LinzApart_l0 (n : Nat) : (List Int) → (List Call) → Int → (List Int) → Int → Conf → (List Call) → (List Int) → Option (Bool) := (lodgerlaw25_LinzApart_ls n).1
def lodgerlaw25_LinzApart_l1 (n : Nat) : (List Int) → Int → Conf → (List Call) → (List Int) → Option (Bool) := (lodgerlaw25_LinzApart_ls n).2
theorem su0_lodgerlaw25_LinzApart (n : Nat) : lodgerlaw25_LinzApart_l0 (n + 1) = lodgerlaw25_LinzApart_s0 (lodgerlaw25_LinzApart_l0 n) (lodgerlaw25_LinzApart_l1 n) := rfl
theorem su1_lodgerlaw25_LinzApart (n : Nat) : lodgerlaw25_LinzApart_l1 (n + 1) = lodgerlaw25_LinzApart_s1 (lodgerlaw25_LinzApart_l0 n) (lodgerlaw25_LinzApart_l1 n) := rfl
def lodgerlaw25_LinzApart_n (n : Nat) (a0 : Conf) (a1 : (List Int)) (a2 : (List Call)) (a3 : Int) : Option (Bool) := lodgerlaw25_LinzApart_e (lodgerlaw25_LinzApart_l0 n) (lodgerlaw25_LinzApart_l1 n) a0 a1 a2 a3
def lodgerlaw25_LinzApart (a0 : Conf) (a1 : (List Int)) (a2 : (List Call)) (a3 : Int) : Option (Bool) := lodgerlaw25_LinzApart_n big a0 a1 a2 a3
theorem def_lodgerlaw25_LinzApart (a0 : Conf) (a1 : (List Int)) (a2 : (List Call)) (a3 : Int) : lodgerlaw25_LinzApart a0 a1 a2 a3 = lodgerlaw25_LinzApart_n big a0 a1 a2 a3 := rfl
end Go.Lv.Ld
