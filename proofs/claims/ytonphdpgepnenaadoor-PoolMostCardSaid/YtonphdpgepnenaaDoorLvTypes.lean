import Derived.Test.YtonphdpgepnenaaDoorLvCore
namespace Go.Lv.Ld
set_option linter.all false
open Go Go.Lv

structure Block where
  base : Int
  pre : Int
structure Conf where
  block : Block
  held : List Int
  shards : Int
  workers : Int
  queue : Int
  tries : Int
structure Ask where
  kind : Int
  addr : Int
  addrs : List Int
structure Answer where
  err : Int
  addr : Int
  used : Bool
  addrs : List Int
  errs : List Int
structure Oq where
  ask : Ask
  answer : Answer
  phase : Int
  shard : Int
  sought : Int
  leaf : Int
  bit : Int
  word : Int
  full : Bool
  seen : List Int
  at_ : Int
  tries : Int
  item : Int
  stamp : Int
structure Call where
  client : Int
  ask : Ask
  from_ : Int
  to_ : Int
  answer : Answer
structure Event where
  kind : Int
  client : Int
  ask : Int
  item : Int
  at_ : Int
  answer : Answer

def S : Nat → Type
  | 0 => Block
  | 1 => Conf
  | 2 => Ask
  | 3 => Answer
  | 4 => Oq
  | 5 => Call
  | 6 => Event
  | _ => Unit

abbrev i64 : Ty := .int .i64
abbrev u32 : Ty := .int .u32
abbrev u64 : Ty := .int .u64
def blockT : List Ty := [u32, i64]
def confT : List Ty := [u32, i64, .slice i64, i64, i64, i64, i64]
def askT : List Ty := [i64, u32, .slice u32]
def answerT : List Ty := [i64, u32, .bool, .slice u32, .slice i64]
def opT : List Ty := askT ++ answerT ++ [i64, i64, i64, i64, i64, u64, .bool, .slice u64, i64, i64, i64, i64]
def callT : List Ty := [i64] ++ askT ++ [i64, i64] ++ answerT
def eventT : List Ty := [i64, i64, i64, i64, i64] ++ answerT
def tys : Nat → List Ty
  | 0 => blockT
  | 1 => confT
  | 2 => askT
  | 3 => answerT
  | 4 => opT
  | 5 => callT
  | 6 => eventT
  | _ => []

def askC (a : Ask) : List (Cell S) := [⟨i64, a.kind⟩, ⟨u32, a.addr⟩, ⟨.slice u32, a.addrs⟩]
def answerC (a : Answer) : List (Cell S) := [⟨i64, a.err⟩, ⟨u32, a.addr⟩, ⟨.bool, a.used⟩, ⟨.slice u32, a.addrs⟩, ⟨.slice i64, a.errs⟩]
def toC : (i : Nat) → S i → List (Cell S)
  | 0, (b : Block) => [⟨u32, b.base⟩, ⟨i64, b.pre⟩]
  | 1, (c : Conf) => [⟨u32, c.block.base⟩, ⟨i64, c.block.pre⟩, ⟨.slice i64, c.held⟩, ⟨i64, c.shards⟩, ⟨i64, c.workers⟩, ⟨i64, c.queue⟩, ⟨i64, c.tries⟩]
  | 2, (a : Ask) => askC a
  | 3, (a : Answer) => answerC a
  | 4, (o : Oq) => askC o.ask ++ answerC o.answer ++ [⟨i64, o.phase⟩, ⟨i64, o.shard⟩, ⟨i64, o.sought⟩, ⟨i64, o.leaf⟩, ⟨i64, o.bit⟩, ⟨u64, o.word⟩, ⟨.bool, o.full⟩, ⟨.slice u64, o.seen⟩, ⟨i64, o.at_⟩, ⟨i64, o.tries⟩, ⟨i64, o.item⟩, ⟨i64, o.stamp⟩]
  | 5, (c : Call) => [⟨i64, c.client⟩] ++ askC c.ask ++ [⟨i64, c.from_⟩, ⟨i64, c.to_⟩] ++ answerC c.answer
  | 6, (e : Event) => [⟨i64, e.kind⟩, ⟨i64, e.client⟩, ⟨i64, e.ask⟩, ⟨i64, e.item⟩, ⟨i64, e.at_⟩] ++ answerC e.answer
  | _, _ => []

section
variable {α : Type} (d : (t : Ty) → α → Option (den S t))
def blockO : List α → Option Block
  | [a, b] => (d u32 a).bind fun x => (d i64 b).bind fun y => some ⟨x, y⟩
  | _ => none
def askO : List α → Option Ask
  | [a, b, c] => (d i64 a).bind fun x => (d u32 b).bind fun y => (d (.slice u32) c).bind fun z => some ⟨x, y, z⟩
  | _ => none
def answerO : List α → Option Answer
  | [a, b, c, e, f] => (d i64 a).bind fun x => (d u32 b).bind fun y => (d .bool c).bind fun z => (d (.slice u32) e).bind fun u => (d (.slice i64) f).bind fun v => some ⟨x, y, z, u, v⟩
  | _ => none
def confO : List α → Option Conf
  | [a, b, c, e, f, g, h] => (blockO d [a, b]).bind fun bl => (d (.slice i64) c).bind fun x3 => (d i64 e).bind fun x4 => (d i64 f).bind fun x5 => (d i64 g).bind fun x6 => (d i64 h).bind fun x7 => some ⟨bl, x3, x4, x5, x6, x7⟩
  | _ => none
def opO : List α → Option Oq
  | [a1, a2, a3, b1, b2, b3, b4, b5, c1, c2, c3, c4, c5, c6, c7, c8, c9, c10, c11, c12] =>
    (askO d [a1, a2, a3]).bind fun a => (answerO d [b1, b2, b3, b4, b5]).bind fun b => (d i64 c1).bind fun x1 => (d i64 c2).bind fun x2 => (d i64 c3).bind fun x3 => (d i64 c4).bind fun x4 => (d i64 c5).bind fun x5 =>
    (d u64 c6).bind fun x6 => (d .bool c7).bind fun x7 => (d (.slice u64) c8).bind fun x8 => (d i64 c9).bind fun x9 => (d i64 c10).bind fun x10 => (d i64 c11).bind fun x11 => (d i64 c12).bind fun x12 =>
    some ⟨a, b, x1, x2, x3, x4, x5, x6, x7, x8, x9, x10, x11, x12⟩
  | _ => none
def callO : List α → Option Call
  | [c, a1, a2, a3, f, t, b1, b2, b3, b4, b5] => (d i64 c).bind fun x => (askO d [a1, a2, a3]).bind fun a => (d i64 f).bind fun y => (d i64 t).bind fun z => (answerO d [b1, b2, b3, b4, b5]).bind fun b => some ⟨x, a, y, z, b⟩
  | _ => none
def eventO : List α → Option Event
  | [k, c, a, i, t, b1, b2, b3, b4, b5] => (d i64 k).bind fun x1 => (d i64 c).bind fun x2 => (d i64 a).bind fun x3 => (d i64 i).bind fun x4 => (d i64 t).bind fun x5 => (answerO d [b1, b2, b3, b4, b5]).bind fun b => some ⟨x1, x2, x3, x4, x5, b⟩
  | _ => none
def ofC : (i : Nat) → List α → Option (S i)
  | 0, l => blockO d l
  | 1, l => confO d l
  | 2, l => askO d l
  | 3, l => answerO d l
  | 4, l => opO d l
  | 5, l => callO d l
  | 6, l => eventO d l
  | _, _ => none
end
def E : Env S := { tys := tys, toC := toC, ofC := fun i _ d l => ofC d i l }
end Go.Lv.Ld
