import Derived.Calls
import Derived.KernelRfl
import Derived.Laws.AppendOwn
import Derived.Below
import Derived.Laws.MakeOwn
import Derived.Laws.OwnMore
import Derived.Tactics
import Derived.WideLaws
import Derived.Laws.Small
import Derived.Laws.Strings
import Derived.Laws.Concat
import Derived.Laws.StructEq
import Derived.Laws.Slices
namespace Go.Lv
set_option linter.all false
open Go
/-- The types of what is told: leaves, lists, named structs by number. -/
inductive Ty where
  | bool | int (k : IntKind) | str | err | fn | slice (t : Ty) | st (i : Nat)
  deriving DecidableEq
def den (S : Nat → Type) : Ty → Type
  | .bool => Bool
  | .int _ => Int
  | .str => List UInt8
  | .err => Bool
  | .fn => Nat
  | .slice t => List (den S t)
  | .st i => S i
structure Cell (S : Nat → Type) where
  t : Ty
  x : den S t
def Cell.as {S : Nat → Type} (c : Cell S) (t : Ty) : Option (den S t) := if h : c.t = t then some (h ▸ c.x) else none
inductive V (S : Nat → Type) : Type where
  | cell (t : Ty) (x : den S t)
  | full (t : Ty) (l : List (den S t))
  | nilS
  | agg (cs : List (V S))
  | ptr (id off : Nat)
  | own (id gen : Nat)
  | eptr (id gen : Nat) (i off : Nat)
  | ro (cs : List (V S))
  | clo (f : FuncId) (first caps : List (V S))
  | tup (vs : List (V S))
  | cmap (es : List (Int × V S))
  | mapr (id : Nat)
  | ifc (t : TypeId)
  | undef
  /-- What stands here since the segment's start. -/
  | known (j : Nat) (x : V S)
  /-- A loop's yield. -/
  | yld (id : Nat)
inductive Ob (S : Nat → Type) : Type where
  | box (cs : List (V S)) (fz : Bool)
  | arr (e : TypeId) (t : Ty) (l : List (den S t)) (gen : Nat) (fz : Bool)
  | map (kt vt : Ty) (l : List (den S kt × den S vt))
  /-- A block of another kind (a loop's record). -/
  | oth (o : Obj)
abbrev Mem (S : Nat → Type) := List (Ob S)
/-- A computation that asks for truths and for what calls tell. -/
inductive D (α : Type) : Type 1 where
  | ret (a : α)
  | fail
  | split (b : Bool) (x y : D α)
  | call {R : Type} (o : Option R) (k : R → D α)
namespace D
def bind {α β : Type} : D α → (α → D β) → D β
  | .ret a, f => f a
  | .fail, _ => .fail
  | .split b x y, f => .split b (x.bind f) (y.bind f)
  | .call o k, f => .call o fun r => (k r).bind f
def opt {α : Type} : D α → Option α
  | .ret a => some a
  | .fail => none
  | .split b x y => bif b then x.opt else y.opt
  | .call o k => o.bind fun r => (k r).opt
theorem opt_bind {α β : Type} (d : D α) (f : α → D β) : (d.bind f).opt = d.opt.bind fun a => (f a).opt := by
  induction d with
  | ret a => rfl
  | fail => rfl
  | split b x y hx hy => cases b <;> simp [bind, opt, hx, hy]
  | call o k ih => cases o <;> simp [bind, opt, ih]
def ofOpt {α : Type} : Option α → D α
  | some a => .ret a
  | none => .fail
theorem opt_ofOpt {α : Type} (o : Option α) : (ofOpt o).opt = o := by cases o <;> rfl
end D
/-- The structs that are told: their cells' types, how they are taken apart and put together. -/
structure Env (S : Nat → Type) where
  tys : Nat → List Ty
  toC : (i : Nat) → S i → List (Cell S)
  ofC : (i : Nat) → {α : Type} → ((t : Ty) → α → Option (den S t)) → List α → Option (S i)
structure Spec (S : Nat → Type) where
  args : List Ty
  R : Type
  run : List (Cell S) → Option R
  enc : R → List (Cell S)
structure Ctx (S : Nat → Type) where
  P : Program
  E : Env S
  ty : TypeId → Option Ty
  G : Nat → Option (List (V S))
  spec : FuncId → Option (Spec S)
  inl : FuncId → Bool
  own : Bool := false
  flat : Bool := false
  fl : Bool := false
  roLd : TypeId → Bool := fun _ => false
  /-- Closures that turn the boxes wb alone, of those that lie. -/
  wf : FuncId → Bool := fun _ => false
  wb : Nat → Bool := fun _ => false
  /-- Regions that are handed on like a loop's head. -/
  hk : Nat → Bool := fun _ => false
/-- Where a region's order is open, some operations are let of plain values alone. -/
def Ctx.dr {S : Nat → Type} (C : Ctx S) (d : Bool) : Ctx S := bif d && C.flat then { C with fl := true } else C
section
variable {S : Nat → Type} (E : Env S)
def elemCells : (t : Ty) → den S t → List (V S)
  | .st i, x => (E.toC i x).map fun c => .cell c.t c.x
  | t, x => [.cell t x]
def encV : (t : Ty) → den S t → V S
  | .st i, x => .agg ((E.toC i x).map fun c => .cell c.t c.x)
  | t, x => .cell t x
def tsize : Ty → Nat
  | .st i => (E.tys i).length
  | _ => 1
def V.cells : V S → List (V S)
  | .agg cs => cs
  | v => [v]
def V.one : V S → Bool
  | .agg _ => false
  | .tup _ => false
  | .undef => false
  | .known _ _ => false
  | _ => true
def V.defd : V S → Bool
  | .undef => false
  | .tup _ => false
  | .known _ _ => false
  | _ => true
def decLeaf (m : Mem S) (t : Ty) : V S → Option (den S t)
  | .cell t' x => if h : t' = t then some (h ▸ x) else none
  | .full t' l => if h : Ty.slice t' = t then some (h ▸ (l : den S (.slice t'))) else none
  | .nilS => match t with
    | .slice _ => some []
    | _ => none
  | .own id g => match m[id]? with
    | some (.arr _ t' l g' _) => if g = g' then (if h : Ty.slice t' = t then some (h ▸ (l : den S (.slice t'))) else none) else none
    | _ => none
  | .clo f [] [] => match t with
    | .fn => some f
    | _ => none
  | _ => none
def decSt (m : Mem S) (i : Nat) : V S → Option (S i)
  | .agg cs => E.ofC i (decLeaf m) cs
  | _ => none
def dec (m : Mem S) : (t : Ty) → V S → Option (den S t)
  | .st i, v => decSt E m i v
  | t, v => decLeaf m t v
def putElem (m : Mem S) : (T : Ty) → List (V S) → V S → Option (den S T)
  | .st n, cs, _ => E.ofC n (decLeaf m) cs
  | T, _, v => decLeaf m T v
def decAll (m : Mem S) : List Ty → List (V S) → Option (List (Cell S))
  | [], [] => some []
  | t :: ts, v :: vs => (dec E m t v).bind fun x => (decAll m ts vs).bind fun r => some (⟨t, x⟩ :: r)
  | _, _ => none
def encAll : List (Cell S) → V S
  | [c] => encV E c.t c.x
  | cs => .tup (cs.map fun c => encV E c.t c.x)
end
def ieq (a b : Int) : Bool := a == b
def geti {α : Type} (l : List α) (i : Int) : Option α := if 0 ≤ i then l[i.toNat]? else none
/-- The own arrays that a value leads to. -/
def V.owns {S : Nat → Type} : V S → List Nat
  | .own id _ => [id]
  | .agg cs => cs.filterMap fun | .own id _ => some id | _ => none
  | _ => []
def mark1 {S : Nat → Type} (m : Mem S) (id : Nat) : Mem S := match m[id]? with
  | some (.arr e t l g _) => m.set id (.arr e t l g true)
  | _ => m
def mark {S : Nat → Type} (m : Mem S) : List Nat → Mem S
  | [] => m
  | id :: ids => mark (mark1 m id) ids
section
variable {S : Nat → Type} (C : Ctx S)
def ofConst : Value → V S
  | .bool b => .cell .bool b
  | .int k n => .cell (.int k) n
  | .string s => .cell .str s.data.toList
  | .slice none 0 0 => .nilS
  | .nilIface => .cell .err false
  | .agg cs => .agg (cs.toList.map fun
    | .bool b => .cell .bool b
    | .int k n => .cell (.int k) n
    | .string s => .cell .str s.data.toList
    | .slice none 0 0 => .nilS
    | .nilIface => .cell .err false
    | _ => .undef)
  | _ => .undef
def sizeOf? (t : TypeId) : Option Nat := (C.P.info? t).map (·.size)
def isAgg? (t : TypeId) : Option Bool := (C.P.underlying t).map fun
  | .struct _ | .array _ _ => true
  | _ => false
def fieldAt? (s : TypeId) (f : Nat) : Option (Nat × TypeId) := match C.P.underlying s with
  | some (.struct fs) => match fs[f]? with
    | some x => match sizeOf? C x.type with
      | some (_ + 1) => some (x.offset, x.type)
      | _ => none
    | none => none
  | _ => none
def fieldsOK (fs : Array Field) : Bool := fs.toList.all fun f => (sizeOf? C f.type).isSome
def take? (t : TypeId) (cs : List (V S)) (off : Nat) : Option (V S) :=
  (isAgg? C t).bind fun a => if a then (sizeOf? C t).bind fun n => if off + n ≤ cs.length then some (.agg ((cs.drop off).take n)) else none else cs[off]?
def setCells (cs : List (V S)) : Nat → List (V S) → List (V S)
  | _, [] => cs
  | off, v :: vs => setCells (cs.set off v) (off + 1) vs
def wr (k : IntKind) (n : Int) : V S := .cell (.int k) (k.wrap n)
def intOp (op : BinOp) (k : IntKind) (a b : Int) : D (V S) :=
  match op with
  | .add => .ret (wr k (a + b))
  | .sub => .ret (wr k (a - b))
  | .mul => .ret (wr k (a * b))
  | .quo => .split (b == 0) .fail (.ret (wr k (a.tdiv b)))
  | .rem => .split (b == 0) .fail (.ret (.cell (.int k) (a.tmod b)))
  | .and => .ret (wr k ((BitVec.ofInt k.bits a &&& BitVec.ofInt k.bits b).toNat : Nat))
  | .or => .ret (wr k ((BitVec.ofInt k.bits a ||| BitVec.ofInt k.bits b).toNat : Nat))
  | .xor => .ret (wr k ((BitVec.ofInt k.bits a ^^^ BitVec.ofInt k.bits b).toNat : Nat))
  | .andNot => .ret (wr k ((BitVec.ofInt k.bits a &&& ~~~ BitVec.ofInt k.bits b).toNat : Nat))
  | .eql => .ret (.cell .bool (a == b))
  | .neq => .ret (.cell .bool (a != b))
  | .lss => .ret (.cell .bool (decide (a < b)))
  | .leq => .ret (.cell .bool (decide (a ≤ b)))
  | .gtr => .ret (.cell .bool (decide (a > b)))
  | .geq => .ret (.cell .bool (decide (a ≥ b)))
  | _ => .fail
def shl (k : IntKind) (a : Int) (b : Int) : Int := k.wrap (a * 2 ^ (min b.toNat k.bits))
def shr (k : IntKind) (a : Int) (b : Int) : Int := a.fdiv (2 ^ (min b.toNat k.bits))
def binInt (op : BinOp) (k k' : IntKind) (a b : Int) : D (V S) :=
  match op with
  | .shl => .split (decide (b < 0)) .fail (.ret (.cell (.int k) (shl k a b)))
  | .shr => .split (decide (b < 0)) .fail (.ret (.cell (.int k) (shr k a b)))
  | _ => if k = k' then intOp op k a b else .fail
def binBool (op : BinOp) (a b : Bool) : D (V S) :=
  match op with
  | .eql => .ret (.cell .bool (a == b))
  | .neq => .ret (.cell .bool (!(a == b)))
  | _ => .fail
def binErr (op : BinOp) (a b : Bool) : D (V S) :=
  if b then .fail else
  match op with
  | .eql => .ret (.cell .bool (!a))
  | .neq => .ret (.cell .bool a)
  | _ => .fail
def binStr (op : BinOp) (a b : List UInt8) : D (V S) :=
  match op with
  | .eql => .ret (.cell .bool (a == b))
  | .neq => .ret (.cell .bool (!(a == b)))
  | .add => .split (decide (a.length + b.length ≤ 1152921504606846976)) (.ret (.cell .str (a ++ b))) .fail
  | _ => .fail
/-- Two structs of numbers, field by field. -/
def eqF : List Field → List (V S) → List (V S) → Option Bool
  | [], _, _ => some true
  | f :: fs, xs, ys => match C.P.underlying f.type, xs[f.offset]?, ys[f.offset]? with
    | some (.int _), some (.cell (.int k) a), some (.cell (.int k') b) => if k = k' ∧ isAgg? C f.type = some false ∧ (f.name == "_") = false then (eqF fs xs ys).map fun r => (ieq a b && r) else none
    | _, _, _ => none
def binAgg (op : BinOp) (t : TypeId) (xs ys : List (V S)) : D (V S) :=
  match C.P.underlying t with
  | some (.struct fs) => if C.P.stoodInHeld t = false ∧ C.P.eqGuardType C.P.depth t = false then (D.ofOpt (eqF C fs.toList xs ys)).bind fun r => match op with
    | .eql => .ret (.cell .bool r)
    | .neq => .ret (.cell .bool (!r))
    | _ => .fail
    else .fail
  | _ => .fail
def binD (op : BinOp) (t : TypeId) (yc : Bool) (x y : V S) : D (V S) :=
  match x, y with
  | .agg xs, .agg ys => binAgg C op t xs ys
  | .cell (.int k) a, .cell (.int k') b => binInt op k k' a b
  | .cell .bool a, .cell .bool b => match C.P.underlying t with
    | some .bool => binBool op a b
    | _ => .fail
  | .cell .str a, .cell .str b => binStr op a b
  | .cell .err a, .cell .err b => match C.P.underlying t with
    | some (.interface _) => if yc then binErr op a b else .fail
    | _ => .fail
  | _, _ => .fail
def unD (op : UnOp) (x : V S) : D (V S) :=
  match op, x with
  | .not, .cell .bool b => .ret (.cell .bool (not b))
  | .neg, .cell (.int k) n => .ret (wr k (Int.sub 0 n))
  | _, _ => .fail
/-- One of a few, by a number. -/
def pickAt {α : Type} (i : Int) : Nat → List α → (Nat → α → D (V S)) → D (V S)
  | _, [], _ => .fail
  | n, x :: xs, f => .split (i == (n : Int)) (f n x) (pickAt i (n + 1) xs f)
def maxList : Nat := 137438953472
def okLen (n : Int) : Bool := decide (0 ≤ n ∧ n ≤ (maxList : Int))
def elemAt (m : Mem S) (T : Ty) (x : V S) (i : Int) : D (V S × Mem S) :=
  match x with
  | .cell (.slice t) l => if t = T then .call (geti l i) fun x => .ret (.ro (elemCells C.E t x), m) else .fail
  | .full t l => if t = T then .call (geti l i) fun x => .ret (.ro (elemCells C.E t x), m) else .fail
  | .own id g => match m[id]? with
    | some (.arr _ t l g' _) => if t = T then (if g = g' then .split (decide (0 ≤ i ∧ i < (l.length : Int))) (.ret (.eptr id g i.toNat 0, m)) .fail else .fail) else .fail
    | _ => .fail
  | _ => .fail
def semLoad (m : Mem S) (t : TypeId) : V S → D (V S × Mem S)
  | .ptr id off => match m[id]? with
    | some (.box cs _) => (D.ofOpt (take? C t cs off)).bind fun v => .ret (v, m)
    | _ => .fail
  | .ro cs => (D.ofOpt (take? C t cs 0)).bind fun v => .ret (v, m)
  | .eptr id g i off => match m[id]? with
    | some (.arr _ T l g' _) => if g = g' then .call l[i]? fun x => (D.ofOpt (take? C t (elemCells C.E T x) off)).bind fun v => .ret (v, m) else .fail
    | _ => .fail
  | _ => .fail
def semStore (m : Mem S) (t : TypeId) (v : V S) : V S → D (V S × Mem S)
  | .ptr id off => match m[id]? with
    | some (.box cs false) => if v.cells.all V.one = true ∧ some v.cells.length = sizeOf? C t ∧ off + v.cells.length ≤ cs.length then .ret (.undef, m.set id (.box (setCells cs off v.cells) false)) else .fail
    | _ => .fail
  | .eptr id g i off => match m[id]? with
    | some (.arr e T l g' false) => if g = g' ∧ v.owns.contains id = false then .call l[i]? fun x =>
        let cs := elemCells C.E T x
        if v.cells.all V.one = true ∧ some v.cells.length = sizeOf? C t ∧ off + v.cells.length ≤ cs.length then
          (D.ofOpt (putElem C.E m T (setCells cs off v.cells) v)).bind fun y => .ret (.undef, (mark m v.owns).set id (.arr e T (l.set i y) g false))
        else .fail
      else .fail
    | _ => .fail
  | _ => .fail
/-- The bounds of xs[lo:hi] or xs[lo:hi:max]; the last is whether the capacity is the length. -/
def bounds (len : Int) (isFull : Bool) : Option (V S) → Option (V S) → Option (V S) → Option (Int × Int × Option Int × Bool)
  | none, none, none => some (0, len, none, isFull)
  | some (.cell (.int .i64) a), none, none => some (a, len, none, isFull)
  | none, some (.cell (.int .i64) b), none => some (0, b, none, false)
  | some (.cell (.int .i64) a), some (.cell (.int .i64) b), none => some (a, b, none, false)
  | none, some (.cell (.int .i64) b), some (.cell (.int .i64) c) => some (0, b, some c, true)
  | some (.cell (.int .i64) a), some (.cell (.int .i64) b), some (.cell (.int .i64) c) => some (a, b, some c, true)
  | _, _, _ => none
def okBounds (len a b : Int) (c : Option Int) : Bool := decide (0 ≤ a ∧ a ≤ b ∧ b ≤ len) && (match c with | some c => ieq b c | none => true)
def semSlice (t : Ty) (l : List (den S t)) (isFull : Bool) (lo hi mx : Option (V S)) : D (V S) :=
  (D.ofOpt (bounds l.length isFull lo hi mx)).bind fun p =>
    .split (okBounds l.length p.1 p.2.1 p.2.2.1)
      (.ret (if p.2.2.2 then .full t ((l.take p.2.1.toNat).drop p.1.toNat) else .cell (.slice t) ((l.take p.2.1.toNat).drop p.1.toNat))) .fail
def listOf (m : Mem S) (T : Ty) (v : V S) : Option (List (den S T)) := decLeaf m (.slice T) v
/-- append of a list to what may grow. -/
def semAppend (m : Mem S) (e : TypeId) (T : Ty) (s x : V S) : D (V S × Mem S) :=
  (D.ofOpt (listOf m T x)).bind fun ys =>
  match s with
  | .nilS => .split (decide (ys.length ≤ maxList)) (.ret (.own m.length 0, m ++ [.arr e T ys 0 false])) .fail
  | .full t l => if h : t = T then .split ys.isEmpty (.ret (.full t l, m)) (.split (decide (l.length + ys.length ≤ maxList)) (.ret (.own m.length 0, m ++ [.arr e T ((h ▸ l) ++ ys) 0 false])) .fail) else .fail
  | .own id g => match m[id]? with
    | some (.arr e' t l g' fz) => if h : t = T then
        if g = g' ∧ e = e' then .split (decide (l.length + ys.length ≤ maxList)) (.ret (.own id (g + 1), m.set id (.arr e T ((h ▸ l) ++ ys) (g + 1) fz))) .fail else .fail
      else .fail
    | _ => .fail
  | _ => .fail
def semLen (m : Mem S) : V S → D (V S)
  | .cell (.slice _) l => .ret (.cell (.int .i64) (List.length l : Int))
  | .full _ l => .ret (.cell (.int .i64) (l.length : Int))
  | .nilS => .ret (.cell (.int .i64) (0 : Int))
  | .cell .str l => .ret (.cell (.int .i64) (List.length (α := UInt8) l : Int))
  | .own id g => match m[id]? with
    | some (.arr _ _ l g' _) => if g = g' then .ret (.cell (.int .i64) (l.length : Int)) else .fail
    | _ => .fail
  | _ => .fail
def mm (mx : Bool) (a b : Int) : Int := if mx then (if b > a then b else a) else (if b < a then b else a)
def semMinMax (mx : Bool) : List (V S) → D (V S)
  | .cell (.int k) x :: rest => rest.foldl (fun d y => d.bind fun v => match v, y with
    | .cell (.int j) a, .cell (.int j') b => if j = k ∧ j' = k then .ret (.cell (.int k) (mm mx a b)) else .fail
    | _, _ => .fail) (.ret (.cell (.int k) x))
  | _ => .fail
def allM {α : Type} : List (Option α) → Option (List α)
  | [] => some []
  | none :: _ => none
  | some a :: r => (allM r).map (a :: ·)
/-- The fields of a struct value that is built. -/
def fillV (s : TypeId) : List (V S) → List (Nat × V S) → Option (List (V S))
  | cs, [] => some cs
  | cs, (i, v) :: r => match fieldAt? C s i with
    | some (off, t) => if v.defd = true ∧ some v.cells.length = sizeOf? C t ∧ off + v.cells.length ≤ cs.length then fillV s (setCells cs off v.cells) r else none
    | none => none
def fillA (sz : Nat) : List (V S) → List (Nat × V S) → Option (List (V S))
  | cs, [] => some cs
  | cs, (i, v) :: r => if v.defd = true ∧ v.cells.length = sz ∧ i * sz + v.cells.length ≤ cs.length then fillA sz (setCells cs (i * sz) v.cells) r else none
def inOrder : Nat → List (Nat × V S) → Option (List (V S))
  | _, [] => some []
  | n, (i, v) :: r => if i = n then (inOrder (n + 1) r).map (v :: ·) else none
/-- What an own map of truths holds; what it holds behind a store. -/
def mget (n : Int) : List (Int × Bool) → Bool
  | [] => false
  | p :: r => bif ieq n p.1 then p.2 else mget n r
def mput (n : Int) (b : Bool) : List (Int × Bool) → List (Int × Bool)
  | [] => [(n, b)]
  | p :: r => bif ieq n p.1 then (n, b) :: r else p :: mput n b r
/-- The same, with whether it is there. -/
def mapAtOk (z : V S) (n : Int) : List (Int × V S) → D (V S)
  | [] => .ret (.tup [z, .cell .bool false])
  | p :: r => .split (ieq n p.1) (.ret (.tup [p.2, .cell .bool true])) (mapAtOk z n r)
/-- A method of a struct's own. -/
def mthOf (C : Ctx S) (t : TypeId) (name : String) : Option FuncId := match C.P.info? t with
  | some i => match i.methods.find? (·.name == name) with
    | some r => match r.path.toList, r.func, C.P.underlying t with
      | [], some (f, false), some (.struct _) => some f
      | _, _, _ => none
    | none => none
  | none => none
/-- What a map of interface values gives where nothing is. -/
def nilElem (t : TypeId) : Bool := match C.P.underlying t with
  | some (.map _ e) => match (C.P.info? e).bind (·.zero) with
    | some .nilIface => true
    | _ => false
  | _ => false
def mapAt (n : Int) : List (Int × V S) → D (V S)
  | [] => .fail
  | p :: r => .split (ieq n p.1) (.ret p.2) (mapAt n r)
/-- A map from numbers to truths. -/
def mapKB (t : TypeId) : Option IntKind := match C.P.underlying t with
  | some (.map k e) => match C.P.underlying k, C.P.underlying e with
    | some (.int q), some .bool => bif (match (C.P.info? e).bind (·.zero) with | some (.bool false) => true | _ => false) then some q else none
    | _, _ => none
  | _ => none
def semMapGet (m : Mem S) (t : TypeId) (x : V S) (q : IntKind) (n : Int) : D (V S) :=
  match x with
  | .mapr id => match m[id]? with
    | some (.map (.int k) .bool l) => if k = q ∧ mapKB C t = some k then .ret (.cell .bool (mget n l)) else .fail
    | _ => .fail
  | _ => .fail
def semMapPut (m : Mem S) (t : TypeId) (x i v : V S) : D (V S × Mem S) :=
  match x, i, v with
  | .mapr id, .cell (.int q) n, .cell .bool b => match m[id]? with
    | some (.map (.int k) .bool l) => if k = q ∧ mapKB C t = some k then .ret (.undef, m.set id (.map (.int k) .bool (mput n b l))) else .fail
    | _ => .fail
  | _, _, _ => .fail
def semBuild (t : TypeId) (ps : List (Nat × V S)) : D (V S) :=
  (D.ofOpt ((C.P.info? t).bind (·.zero))).bind fun z =>
    match C.P.underlying t with
    | some (.struct fs) => if fieldsOK C fs then (D.ofOpt (fillV C t (ofConst (S := S) z).cells ps)).bind fun cs => .ret (.agg cs) else .fail
    | some (.array _ e) => (D.ofOpt (sizeOf? C e)).bind fun sz => (D.ofOpt (fillA sz (ofConst (S := S) z).cells ps)).bind fun cs => .ret (.agg cs)
    | _ => .fail
def semMake (m : Mem S) (t : TypeId) (len cap : V S) : D (V S × Mem S) :=
  match C.P.underlying t with
  | some (.slice e) => (D.ofOpt (C.ty e)).bind fun T =>
    match len, cap with
    | .cell (.int .i64) n, .cell (.int .i64) n' => .split (ieq n n' && okLen n)
        ((D.ofOpt ((C.P.info? e).bind (·.zero))).bind fun z => (D.ofOpt (dec C.E m T (ofConst z))).bind fun x => .ret (.own m.length 0, m ++ [.arr e T (List.replicate (Int.toNat n) x) 0 false])) .fail
    | _, _ => .fail
  | _ => .fail
def semSl (m : Mem S) (T : Ty) (x : V S) (lo hi mx : Option (V S)) : D (V S × Mem S) :=
  match x with
  | .cell (.slice t) l => if t = T then (semSlice t l false lo hi mx).bind fun v => .ret (v, m) else .fail
  | .full t l => if t = T then (semSlice t l true lo hi mx).bind fun v => .ret (v, m) else .fail
  | .own id g => match m[id]? with
    | some (.arr _ t l g' _) => if g = g' ∧ t = T then (semSlice t l false lo hi mx).bind fun v => .ret (v, mark m [id]) else .fail
    | _ => .fail
  | _ => .fail
/-- A piece of a string. -/
def strCut (l : List UInt8) (a b : Int) : D (V S) := .split (decide (0 ≤ a ∧ a ≤ b ∧ b ≤ (l.length : Int))) (.ret (.cell .str ((l.drop a.toNat).take (b.toNat - a.toNat)))) .fail
def semStr (x : V S) (lo hi mx : Option (V S)) : D (V S) :=
  match x, mx with
  | .cell .str l, none => match lo, hi with
    | none, none => .ret (.cell .str l)
    | some (.cell (.int .i64) a), none => strCut l a (List.length (α := UInt8) l : Int)
    | none, some (.cell (.int .i64) b) => strCut l 0 b
    | some (.cell (.int .i64) a), some (.cell (.int .i64) b) => strCut l a b
    | _, _ => .fail
  | _, _ => .fail
def strOf (l : List Int) : List UInt8 := l.map fun n => UInt8.ofNat n.toNat
/-- A string of a list of bytes. -/
def semBytes (m : Mem S) (src : TypeId) (x : V S) : D (V S × Mem S) :=
  match C.P.underlying src with
  | some (.slice e) => match C.P.underlying e with
    | some (.int .u8) => (D.ofOpt (listOf m (.int .u8) x)).bind fun l => .ret (.cell .str (strOf l), mark m x.owns)
    | _ => .fail
  | _ => .fail
def asCell (T : Ty) : V S → Option (den S T)
  | .cell t x => if h : t = T then some (h ▸ x) else none
  | _ => none
/-- An own array variable, as a list from now on. -/
def semBoxAll (m : Mem S) (n : Nat) (e : TypeId) (x : V S) : D (V S × Mem S) :=
  match x with
  | .ptr id 0 => match m[id]? with
    | some (.box cs _) => (D.ofOpt (C.ty e)).bind fun T => if cs.length = n ∧ tsize C.E T = 1 then (D.ofOpt (allM (cs.map (asCell T)))).bind fun l => .ret (.full T l, m.set id (.box cs true)) else .fail
    | _ => .fail
  | _ => .fail
def semFA (off : Nat) : V S → D (V S)
  | .ptr id o => .ret (.ptr id (o + off))
  | .ro cs => if off ≤ cs.length then .ret (.ro (cs.drop off)) else .fail
  | .eptr id g i o => .ret (.eptr id g i (o + off))
  | _ => .fail
def semFld (p : Nat × TypeId) : V S → D (V S)
  | .agg cs => D.ofOpt (take? C p.2 cs p.1)
  | _ => .fail
def semIA (m : Mem S) (t : TypeId) (x i : V S) : D (V S × Mem S) :=
  match C.P.underlying t, i with
  | some (.slice e), .cell (.int .i64) n => (D.ofOpt (C.ty e)).bind fun T => elemAt C m T x n
  | some (.array len e), .cell (.int .i64) n => (D.ofOpt (sizeOf? C e)).bind fun sz =>
    match x with
    | .ptr id off => (pickAt n 0 (List.range len) fun k _ => .ret (.ptr id (off + k * sz))).bind fun v => .ret (v, m)
    | .ro cs => (pickAt n 0 (List.range len) fun k _ => if k * sz ≤ cs.length then .ret (.ro (cs.drop (k * sz))) else .fail).bind fun v => .ret (v, m)
    | _ => .fail
  | _, _ => .fail
def semIdx (t : TypeId) (x i : V S) : D (V S) :=
  match C.P.underlying t, x, i with
  | some (.array len e), .agg cs, .cell (.int .i64) n => pickAt n 0 (List.range len) fun k _ => D.ofOpt ((sizeOf? C e).bind fun sz => take? C e cs (k * sz))
  | some .string, .cell .str l, .cell (.int .i64) n => .call (geti (α := UInt8) l n) fun b => .ret (.cell (.int .u8) (b.toNat : Int))
  | _, _, _ => .fail
def semCopy (m : Mem S) (e : TypeId) (T : Ty) (d x : V S) : D (V S × Mem S) :=
  (D.ofOpt (listOf m T x)).bind fun ys =>
  match d with
  | .own id g => match m[id]? with
    | some (.arr e' t l g' false) => if h : t = T then
        if g = g' ∧ e = e' then .ret (.cell (.int .i64) ((min ys.length l.length : Nat) : Int), m.set id (.arr e T (ys.take l.length ++ (h ▸ l : List (den S T)).drop ys.length) g false)) else .fail
      else .fail
    | _ => .fail
  | _ => .fail
def semBS (m : Mem S) (t : TypeId) (len : Nat) (ps : List (Nat × V S)) : D (V S × Mem S) :=
  match C.P.underlying t with
  | some (.slice e) => (D.ofOpt (C.ty e)).bind fun T => (D.ofOpt (inOrder 0 ps)).bind fun vs =>
    (D.ofOpt (allM (vs.map (dec C.E m T)))).bind fun l => if vs.length = len ∧ len * tsize C.E T ≤ 16777216 then (bif C.own then .ret (.own m.length 0, mark m (vs.flatMap V.owns) ++ [.arr e T l 0 false]) else .ret (if len = 0 then .nilS else .full T l, mark m (vs.flatMap V.owns))) else .fail
  | _ => .fail
def lenOk (t : TypeId) (x : V S) : Bool := match C.P.underlying t, x with
  | some .string, .cell .str _ => true
  | some (.slice _), .cell .str _ => false
  | some (.slice _), _ => true
  | _, _ => false
def mapInt (t : TypeId) : Bool := match C.P.underlying t with
  | some (.map k _) => match C.P.underlying k with
    | some (.int _) => true
    | _ => false
  | _ => false
abbrev Cl (S : Nat → Type) := FuncId → List (V S) → Mem S → D (V S × Mem S)
def callFn (cl : Cl S) (m : Mem S) (f : FuncId) (args : List (V S)) : D (V S × Mem S) :=
  match C.spec f with
  | some sp => (D.ofOpt (decAll C.E m sp.args args)).bind fun cs => .call (sp.run cs) fun r => .ret (encAll C.E (sp.enc r), mark m (args.flatMap V.owns))
  | none => if C.inl f then cl f args m else .fail
def semOp (cl : Cl S) (m : Mem S) (ev : Operand → V S) (o : Oper) : D (V S × Mem S) :=
  match o.op with
  | .move x | .assign x => .ret (ev x, m)
  | .pick c a b => match ev c with
    | .cell .bool t => .split t (.ret (ev a, m)) (.ret (ev b, m))
    | _ => .fail
  | .alloc t => (D.ofOpt ((C.P.info? t).bind (·.zero))).bind fun z => .ret (.ptr m.length 0, m ++ [.box (ofConst (S := S) z).cells false])
  | .box _ x => if (ev x).defd then .ret (.ptr m.length 0, m ++ [.box (ev x).cells false]) else .fail
  | .build t parts => (semBuild C t (parts.toList.map fun p => (p.1, ev p.2))).bind fun v => .ret (v, m)
  | .buildSlice t len parts => semBS C m t len (parts.toList.map fun p => (p.1, ev p.2))
  | .load t a => semLoad C m t (ev a)
  | .store t a x => semStore C m t (ev x) (ev a)
  | .nilCheck x => match ev x with
    | .ptr id off => .ret (.ptr id off, m)
    | .eptr id g i off => .ret (.eptr id g i off, m)
    | .ro cs => .ret (.ro cs, m)
    | .clo f a b => .ret (.clo f a b, m)
    | _ => .fail
  | .binOp op t x y _ => (binD C op t (match y with | .const _ => true | _ => false) (ev x) (ev y)).bind fun v => .ret (v, m)
  | .unOp op _ x => (unD op (ev x)).bind fun v => .ret (v, m)
  | .convert src dst x => match C.P.underlying dst, ev x with
    | some (.int k), .cell (.int _) n => if (C.P.underlying src).isSome = true then .ret (wr k n, m) else .fail
    | some .string, x => semBytes C m src x
    | _, _ => .fail
  | .makeFunc (.func f) first caps => .ret (.clo f (first.toList.map ev) (caps.toList.map ev), m)
  | .makeSlice t len cap => semMake C m t (ev len) (ev cap)
  | .slice t x lo hi mx => match C.P.underlying t with
    | some (.slice e) => (D.ofOpt (C.ty e)).bind fun T => semSl m T (ev x) (lo.map ev) (hi.map ev) (mx.map ev)
    | some .string => (semStr (ev x) (lo.map ev) (hi.map ev) (mx.map ev)).bind fun v => .ret (v, m)
    | some (.array n e) => match lo, hi, mx with
      | none, none, none => semBoxAll C m n e (ev x)
      | _, _, _ => .fail
    | _ => .fail
  | .fieldAddr s x f => (D.ofOpt (fieldAt? C s f)).bind fun p => (semFA p.1 (ev x)).bind fun v => .ret (v, m)
  | .field s x f => (D.ofOpt (fieldAt? C s f)).bind fun p => (semFld C p (ev x)).bind fun v => .ret (v, m)
  | .indexAddr t x i => semIA C m t (ev x) (ev i)
  | .index t x i => (semIdx C t (ev x) (ev i)).bind fun v => .ret (v, m)
  | .lookup t x i false => if mapInt C t = true then (match ev x, ev i with
    | .cmap es, .cell (.int .i64) n => (mapAt n es).bind fun v => .ret (v, m)
    | .mapr id, .cell (.int q) n => (semMapGet C m t (.mapr id) q n).bind fun v => .ret (v, m)
    | _, _ => .fail) else .fail
  | .lookup t x i true => if mapInt C t = true ∧ nilElem C t = true then (match ev x, ev i with
    | .cmap es, .cell (.int .i64) n => (mapAtOk (.cell .err false) n es).bind fun v => .ret (v, m)
    | _, _ => .fail) else .fail
  | .makeMap t none => match mapKB C t with
    | some k => .ret (.mapr m.length, m ++ [.map (.int k) .bool []])
    | none => .fail
  | .mapUpdate t x i v => semMapPut C m t (ev x) (ev i) (ev v)
  | .extract t i => match ev t with
    | .tup vs => (D.ofOpt vs[i]?).bind fun v => .ret (v, m)
    | _ => .fail
  | .call c => match c.callee with
    | .builtin .len => match c.args.toList, c.argTypes.toList with
      | [x], [t] => if lenOk C t (ev x) = true then (semLen m (ev x)).bind fun v => .ret (v, m) else .fail
      | _, _ => .fail
    | .builtin .append => match c.args.toList, c.argTypes.toList with
      | [s, x], [t, t'] => match C.P.underlying t with
        | some (.slice e) => if t = t' then (D.ofOpt (C.ty e)).bind fun T => semAppend m e T (ev s) (ev x) else .fail
        | _ => .fail
      | _, _ => .fail
    | .builtin .copy => match c.args.toList, c.argTypes.toList with
      | [d, x], [t, _] => match C.P.underlying t with
        | some (.slice e) => (D.ofOpt (C.ty e)).bind fun T => if tsize C.E T = 1 then semCopy m e T (ev d) (ev x) else .fail
        | _ => .fail
      | _, _ => .fail
    | .builtin .min => (semMinMax false (c.args.toList.map ev)).bind fun v => .ret (v, m)
    | .builtin .max => (semMinMax true (c.args.toList.map ev)).bind fun v => .ret (v, m)
    | .value f => match ev f with
      | .clo g first caps => callFn C cl m g (first ++ c.args.toList.map ev ++ caps)
      | _ => .fail
    | .invoke r nm => match ev r with
      | .ifc t => match mthOf C t nm with
        | some f => callFn C cl m f (.agg [] :: c.args.toList.map ev)
        | none => .fail
      | _ => .fail
    | _ => .fail
  | _ => .fail
def flatS : V S → Bool
  | .cell _ _ | .full _ _ | .nilS => true
  | _ => false
/-- .. or a struct of such. -/
def flatA : V S → Bool
  | .agg cs => cs.all flatS
  | v => flatS v
def notE : V S → Bool
  | .eptr _ _ _ _ => false
  | _ => true
def isRo : V S → Bool
  | .ro _ => true
  | _ => false
def notW : V S → Bool
  | .ptr id _ => !(C.wb id)
  | _ => true
def isWf : V S → Bool
  | .clo g _ _ => C.wf g
  | _ => false
def flOK (ev : Operand → V S) (o : Oper) : Bool :=
  match o.op with
  | .slice _ x _ _ _ => flatS (ev x)
  | .indexAddr _ x _ => flatS (ev x)
  | .buildSlice _ _ ps => ps.toList.all fun p => flatA (ev p.2)
  | .load t x => (!(C.roLd t) || isRo (ev x)) && notE (ev x) && notW C (ev x)
  | .call c => match c.callee with
    | .builtin .len => c.args.toList.all fun x => flatS (ev x)
    | .value f => bif c.args.isEmpty then isWf C (ev f) else true
    | _ => true
  | _ => true
def semOpX (cl : Cl S) (m : Mem S) (ev : Operand → V S) (o : Oper) : D (V S × Mem S) :=
  bif C.fl then (bif flOK C ev o then semOp C cl m ev o else .fail) else semOp C cl m ev o
structure St (S : Nat → Type) where
  tmps : List (V S)
  mem : Mem S
def V.bare : V S → V S
  | .known _ x => x
  | x => x
def St.ev (s : St S) : Operand → V S
  | .tmp t => (s.tmps.getD t .undef).bare
  | .const v => ofConst v
  | .global g => match C.G g with
    | some cs => .ro cs
    | none => .undef
  | .func f => .clo f [] []
def St.put (s : St S) (dst : Option Nat) (p : V S × Mem S) : St S := { tmps := match dst with | some d => s.tmps.set d p.1 | none => s.tmps, mem := p.2 }
/-- The operations of a region, in the order of the text; a guard is asked once. -/
def semOps (cl : Cl S) (all : List Oper) : List Oper → St S → D (St S)
  | [], s => .ret s
  | o :: r, s =>
    match o.guard with
    | none => (semOpX C cl s.mem (s.ev C) o).bind fun p => semOps cl all r (s.put o.dst p)
    | some (j, want) =>
      match (all[j]?).bind (·.dst) with
      | some d => match s.tmps[d]? with
        | some (.cell .bool b) =>
          let yes (s : St S) := (semOpX C cl s.mem (s.ev C) o).bind fun p => semOps cl all r (s.put o.dst p)
          let no (s : St S) := semOps cl all r (s.put o.dst (.tup [], s.mem))
          .split b (let s' : St S := { s with tmps := s.tmps.set d (.cell .bool true) }; if want then yes s' else no s')
                   (let s' : St S := { s with tmps := s.tmps.set d (.cell .bool false) }; if want then no s' else yes s')
        | some (.tup []) => semOps cl all r (s.put o.dst (.tup [], s.mem))
        | _ => .fail
      | none => .fail
abbrev Lp (S : Nat → Type) (R : Type) := List Item → St S → D R
def ex {R : Type} (cl : Cl S) (L : Lp S R) (fin : St S → D R) : Nat → List Item → St S → D R
  | 0, _, _ => .fail
  | n + 1, todo, s =>
    match todo with
    | [] => fin s
    | .code .ret :: _ => fin s
    | .code .skip :: k | .code (.label _) :: k | .inBlock _ :: k | .inScope _ :: k => ex cl L fin n k s
    | .code (.seq a b) :: k => ex cl L fin n (.code a :: .code b :: k) s
    | .code (.cond c x y) :: k => match s.ev C c with
      | .cell .bool b => .split b (ex cl L fin n (.code x :: k) s) (ex cl L fin n (.code y :: k) s)
      | _ => .fail
    | .code (.block id b) :: k => ex cl L fin n (.code b :: .inBlock id :: k) s
    | .code (.scope b) :: k => ex cl L fin n (.code b :: .inScope b :: k) s
    | .code (.loop b) :: k | .inLoop b :: k => L (.inLoop b :: k) s
    | .code (.exit id) :: k => match exitTo id k with
      | some k' => ex cl L fin n k' s
      | none => .fail
    | .code (.region id ops dr) :: k => bif C.hk id then L (.code (.region id ops dr) :: k) s else (semOps (C.dr dr) cl ops.toList ops.toList s).bind fun s' => ex cl L fin n k s'
    | _ => .fail
def resOne (s : St S) : ResultVar → Option (V S)
  | .tmp t => some (s.tmps.getD t .undef)
  | .cell a t => match s.tmps.getD a .undef with
    | .ptr id off => match s.mem[id]? with
      | some (.box cs _) => take? C t cs off
      | _ => none
    | _ => none
def resV (rs : List ResultVar) (s : St S) : Option (V S) :=
  match rs.map (resOne C s) with
  | [some v] => some v
  | l => (allM l).map .tup
def fuel : Nat := 100000
def st0 (fn : Func) (args : List (V S)) (m : Mem S) : St S := { tmps := args ++ List.replicate (fn.ntmps - args.length) .undef, mem := m }
/-- A call that is gone into, without loops. -/
def clD : Nat → Cl S
  | 0 => fun _ _ _ => .fail
  | d + 1 => fun f args m => match C.P.funcs[f]? with
    | some fn => match fn.body with
      | some b => ex C (clD d) (fun _ _ => .fail) (fun s => (D.ofOpt (resV C fn.results.toList s)).bind fun v => .ret (v, s.mem)) fuel [.code b] (st0 fn args m)
      | none => .fail
    | none => .fail
/-- A body's outcome: its results, read as what they are told to be. -/
def finT (fn : Func) (ts : List Ty) (s : St S) : D (List (Cell S)) :=
  (D.ofOpt (resV C fn.results.toList s)).bind fun v =>
    match ts, v with
    | [t], v => (D.ofOpt (dec C.E s.mem t v)).bind fun x => .ret [⟨t, x⟩]
    | ts, .tup vs => D.ofOpt (decAll C.E s.mem ts vs)
    | _, _ => .fail
def body? (f : FuncId) : Option (Func × Code) := (C.P.funcs[f]?).bind fun fn => fn.body.map fun b => (fn, b)
end
end Go.Lv
namespace Go.Lv
set_option linter.all false
open Go Go.RowKit
variable {S : Nat → Type}
/-- What is asked of the structs' table. -/
structure EnvOK (E : Env S) : Prop where
  typed : ∀ i x, (E.toC i x).map (·.t) = E.tys i
  leaf : ∀ i t, t ∈ E.tys i → ∀ n, t ≠ .st n
  back : ∀ i {α : Type} (d : (t : Ty) → α → Option (den S t)) (vs : List α) (x : S i), E.ofC i d vs = some x →
    vs.length = (E.tys i).length ∧ ∀ (j : Nat) (v : α) (c : Cell S), vs[j]? = some v → (E.toC i x)[j]? = some c → d c.t v = some c.x
  cong : ∀ i {α : Type} (d d' : (t : Ty) → α → Option (den S t)) (vs : List α), (∀ v, v ∈ vs → ∀ t, d t v = d' t v) → E.ofC i d vs = E.ofC i d' vs
  mono : ∀ i {α : Type} (d d' : (t : Ty) → α → Option (den S t)) (vs : List α) (x : S i), (∀ t v y, d t v = some y → d' t v = some y) → E.ofC i d vs = some x → E.ofC i d' vs = some x
def cellsOf (E : Env S) : (t : Ty) → den S t → List (Cell S)
  | .st i, x => E.toC i x
  | t, x => [⟨t, x⟩]
theorem cellsOf_len {E : Env S} (hE : EnvOK E) (t : Ty) (x : den S t) : (cellsOf E t x).length = tsize E t := by
  cases t <;> simp [cellsOf, tsize]
  rename_i i
  rw [← hE.typed i x]; simp
theorem elemCells_eq (E : Env S) (t : Ty) (x : den S t) : elemCells E t x = (cellsOf E t x).map fun c => .cell c.t c.x := by
  cases t <;> simp [elemCells, cellsOf]
/-- A plain value holds what is told. -/
inductive Rep (E : Env S) (σ : Nat → Nat) (w : World) : Value → (t : Ty) → den S t → Prop where
  | bool (b : Bool) : Rep E σ w (.bool b) .bool b
  | int (k : IntKind) (n : Int) : Rep E σ w (.int k n) (.int k) n
  | str (l : List UInt8) : Rep E σ w (.string ⟨l.toArray⟩) .str l
  | errNil : Rep E σ w .nilIface .err false
  | err (t : TypeId) (v : Value) : Rep E σ w (.iface t v) .err true
  | fn (f : Nat) : Rep E σ w (.func (.func f) #[] #[]) .fn f
  | nil (t : Ty) (a : Option Addr) (cap : Nat) : Rep E σ w (.slice a 0 cap) (.slice t) []
  | slice (t : Ty) (l : List (den S t)) (b off cap : Nat) (vs : Nat → Value) (hcap : l.length ≤ cap)
      (hst : off + l.length * tsize E t ≤ σ b)
      (hc : ∀ j, j < l.length * tsize E t → w.cell? ⟨b, off + j, none⟩ = some (vs j))
      (hr : ∀ (i : Nat) (x : den S t), l[i]? = some x → ∀ (j : Nat) (c : Cell S), (cellsOf E t x)[j]? = some c → Rep E σ w (vs (i * tsize E t + j)) c.t c.x) :
      Rep E σ w (.slice (some ⟨b, off, none⟩) l.length cap) (.slice t) l
theorem Rep.mono {E : Env S} {σ σ' : Nat → Nat} {w w' : World} (hσ : ∀ b, σ b ≤ σ' b) (hc : ∀ b o, o < σ b → w'.cell? ⟨b, o, none⟩ = w.cell? ⟨b, o, none⟩)
    {v : Value} {t : Ty} {x : den S t} (h : Rep E σ w v t x) : Rep E σ' w' v t x := by
  induction h with
  | bool b => exact .bool b
  | int k n => exact .int k n
  | str l => exact .str l
  | errNil => exact .errNil
  | err t v => exact .err t v
  | fn f => exact .fn f
  | nil t a c => exact .nil t a c
  | slice t l b off cap vs hcap hst hcl hr ih =>
    exact .slice t l b off cap vs hcap (Nat.le_trans hst (hσ b)) (fun j hj => (hc b _ (by omega)).trans (hcl j hj)) ih
/-- One cell's value: no aggregate, no tuple. -/
theorem Rep.one {E : Env S} {σ : Nat → Nat} {w : World} {v : Value} {t : Ty} {x : den S t} (h : Rep E σ w v t x) : v.oneCell' = true := by
  cases h <;> rfl
theorem Rep.bool_inv {E : Env S} {σ : Nat → Nat} {w : World} {v : Value} {b : Bool} (h : Rep E σ w v .bool b) : v = .bool b := by cases h; rfl
theorem Rep.int_inv {E : Env S} {σ : Nat → Nat} {w : World} {v : Value} {k : IntKind} {n : Int} (h : Rep E σ w v (.int k) n) : v = .int k n := by cases h; rfl
theorem Rep.str_inv {E : Env S} {σ : Nat → Nat} {w : World} {v : Value} {l : List UInt8} (h : Rep E σ w v .str l) : v = .string ⟨l.toArray⟩ := by cases h; rfl
theorem Rep.st_inv {E : Env S} {σ : Nat → Nat} {w : World} {v : Value} {i : Nat} {x : S i} (h : Rep E σ w v (.st i) x) : False := by cases h
structure Gh where
  n : Nat
  ι : Nat → Nat
  hv : Nat → Value
  gen : Nat → Nat
  esz : Nat → Nat
  live : Nat → Bool
  σ : Nat → Nat
  σ0 : Option ((Nat → Nat) × (Nat → Value)) := none
inductive RepV (E : Env S) (K : Gh) (w : World) : Value → V S → Prop where
  | cell {v : Value} {t : Ty} {x : den S t} (h : Rep E K.σ w v t x) : RepV E K w v (.cell t x)
  | full {a : Option Addr} {t : Ty} {l : List (den S t)} (h : Rep E K.σ w (.slice a l.length l.length) (.slice t) l) : RepV E K w (.slice a l.length l.length) (.full t l)
  | nilS (a : Option Addr) : RepV E K w (.slice a 0 0) .nilS
  | agg (cs : Array Value) (vs : List (V S)) (hs : cs.size = vs.length) (hj : ∀ (j : Nat) (c : Value) (v : V S), cs[j]? = some c → vs[j]? = some v → RepV E K w c v) : RepV E K w (.agg cs) (.agg vs)
  | ptr (id off : Nat) (v : Value) (hn : id < K.n) (hp : ∃ a, v = .pointer (some a)) (h : K.gen id = 0 → v = .pointer (some ⟨K.ι id, off, none⟩)) : RepV E K w v (.ptr id off)
  | own (id g : Nat) (v : Value) (hn : id < K.n) (hg : g ≤ K.gen id) (hp : ∃ a n c, v = .slice a n c) (h : K.gen id = g → v = K.hv id) : RepV E K w v (.own id g)
  | eptr (id g i off : Nat) (v : Value) (hn : id < K.n) (hg : g ≤ K.gen id) (hp : ∃ a, v = .pointer (some a)) (h : K.gen id = g → v = .pointer (some ⟨K.ι id, i * K.esz id + off, none⟩)) : RepV E K w v (.eptr id g i off)
  | ro (b off : Nat) (vs : List (V S)) (f : Nat → Value) (hst : off + vs.length ≤ K.σ b) (hc : ∀ j, j < vs.length → w.cell? ⟨b, off + j, none⟩ = some (f j))
      (hr : ∀ (j : Nat) (v : V S), vs[j]? = some v → RepV E K w (f j) v) : RepV E K w (.pointer (some ⟨b, off, none⟩)) (.ro vs)
  | clo (f : FuncId) (first caps : Array Value) (first' caps' : List (V S)) (h1 : first.size = first'.length) (h2 : caps.size = caps'.length)
      (hf : ∀ (j : Nat) (c : Value) (v : V S), first[j]? = some c → first'[j]? = some v → RepV E K w c v) (hc : ∀ (j : Nat) (c : Value) (v : V S), caps[j]? = some c → caps'[j]? = some v → RepV E K w c v) :
      RepV E K w (.func (.func f) first caps) (.clo f first' caps')
  | tup (cs : Array Value) (vs : List (V S)) (hs : cs.size = vs.length) (hj : ∀ (j : Nat) (c : Value) (v : V S), cs[j]? = some c → vs[j]? = some v → RepV E K w c v) : RepV E K w (.tuple cs) (.tup vs)
  | cmap (r : Nat) (es : Array MapEntry) (clock : Nat) (l : List (Int × V S)) (ix : Nat → Nat) (ky : Nat → Int) (hst : 0 < K.σ r) (hm : w.heap[r]? = some (.map es clock)) (hky : ∀ (i : Nat) (e : MapEntry), es[i]? = some e → e.key = .int .i64 (ky i))
      (hu : ∀ i j, i < es.size → j < es.size → ky i = ky j → i = j) (hix : ∀ j, j < l.length → ix j < es.size) (hk : ∀ (j : Nat) (p : Int × V S), l[j]? = some p → ky (ix j) = p.1) (hall : ∀ i, i < es.size → ∃ j, j < l.length ∧ ix j = i)
      (hv : ∀ (j : Nat) (e : MapEntry) (p : Int × V S), es[ix j]? = some e → l[j]? = some p → RepV E K w e.val p.2) :
      RepV E K w (.map (some r)) (.cmap l)
  | ifc (t : TypeId) : RepV E K w (.iface t (.agg #[])) (.ifc t)
  | mapr (id : Nat) (v : Value) (hn : id < K.n) (hp : ∃ a, v = .map (some a)) (h : K.gen id = 0 → v = .map (some (K.ι id))) : RepV E K w v (.mapr id)
  | undef (v : Value) : RepV E K w v .undef
  | yld (id : Nat) (v : Value) (hn : id < K.n) (hp : ∃ l, v = .func (.yield l) #[] #[]) (h : K.gen id = 0 → v = .func (.yield (K.ι id)) #[] #[]) : RepV E K w v (.yld id)
  | known (j : Nat) (v : Value) (x : V S) (hk : ∃ F, K.σ0 = some F ∧ v = F.2 j) (h : RepV E K w v x) : RepV E K w v (.known j x)
/-- What a block is that may turn inside. -/
def keeps : Obj → Option Obj → Prop
  | .cells c _ _, x => ∃ c' t f, x = some (.cells c' t f) ∧ c'.size = c.size
  | o, x => x = some o
theorem keeps.of {o : Obj} {x : Option Obj} (h : x = some o) : keeps o x := by
  subst h
  cases o <;> first | rfl | exact ⟨_, _, _, rfl, rfl⟩
theorem keeps.trans {o : Obj} {x y : Option Obj} (h : keeps o x) (k : ∀ o', x = some o' → keeps o' y) : keeps o y := by
  cases o with
  | cells c t f =>
    obtain ⟨c', t', f', h1, h2⟩ := h
    obtain ⟨c2, t2, f2, k1, k2⟩ := k _ h1
    exact ⟨c2, t2, f2, k1, k2.trans h2⟩
  | _ => exact k _ h
structure Ext (K : Gh) (w : World) (K' : Gh) (w' : World) : Prop where
  n : K.n ≤ K'.n
  id : ∀ i, i < K.n → K.gen i ≤ K'.gen i ∧ (K'.gen i = K.gen i → K'.ι i = K.ι i ∧ K'.hv i = K.hv i ∧ K'.esz i = K.esz i)
  σ : ∀ b, K.σ b ≤ K'.σ b
  cell : ∀ b o, o < K.σ b → w'.cell? ⟨b, o, none⟩ = w.cell? ⟨b, o, none⟩
  map : ∀ b o, 0 < K.σ b → w.heap[b]? = some o → keeps o w'.heap[b]?
  σ0 : K.σ0 = none ∨ K'.σ0 = K.σ0
theorem Ext.refl (K : Gh) (w : World) : Ext K w K w := ⟨Nat.le_refl _, fun _ _ => ⟨Nat.le_refl _, fun _ => ⟨rfl, rfl, rfl⟩⟩, fun _ => Nat.le_refl _, fun _ _ _ => rfl, fun _ _ _ h => keeps.of h, .inr rfl⟩
theorem Ext.trans {K K' K'' : Gh} {w w' w'' : World} (h : Ext K w K' w') (h' : Ext K' w' K'' w'') : Ext K w K'' w'' where
  n := Nat.le_trans h.n h'.n
  id i hi := by
    obtain ⟨a, b⟩ := h.id i hi
    obtain ⟨c, d⟩ := h'.id i (Nat.lt_of_lt_of_le hi h.n)
    refine ⟨Nat.le_trans a c, fun e => ?_⟩
    have e1 : K'.gen i = K.gen i := by omega
    have e2 : K''.gen i = K'.gen i := by omega
    obtain ⟨p, q, r⟩ := b e1
    obtain ⟨p', q', r'⟩ := d e2
    exact ⟨p'.trans p, q'.trans q, r'.trans r⟩
  σ b := Nat.le_trans (h.σ b) (h'.σ b)
  cell b o ho := (h'.cell b o (Nat.lt_of_lt_of_le ho (h.σ b))).trans (h.cell b o ho)
  map b o hb hm := (h.map b o hb hm).trans fun o' e => h'.map b o' (Nat.lt_of_lt_of_le hb (h.σ b)) e
  σ0 := by
    rcases h.σ0 with q | q
    · exact .inl q
    · rcases h'.σ0 with r | r
      · exact .inl (q.symm.trans r)
      · exact .inr (r.trans q)
theorem RepV.mono {E : Env S} {K K' : Gh} {w w' : World} (hx : Ext K w K' w') {v : Value} {x : V S} (h : RepV E K w v x) : RepV E K' w' v x := by
  induction h with
  | cell h => exact .cell (h.mono hx.σ hx.cell)
  | full h => exact .full (h.mono hx.σ hx.cell)
  | nilS a => exact .nilS a
  | agg cs vs hs hj ih => exact .agg cs vs hs ih
  | ptr id off v hn hp h =>
    refine .ptr id off v (Nat.lt_of_lt_of_le hn hx.n) hp fun e => ?_
    obtain ⟨a, b⟩ := hx.id id hn
    have e1 : K.gen id = 0 := by omega
    rw [(b (by omega)).1]; exact h e1
  | own id g v hn hg hp h =>
    obtain ⟨a, b⟩ := hx.id id hn
    refine .own id g v (Nat.lt_of_lt_of_le hn hx.n) (Nat.le_trans hg a) hp fun e => ?_
    have e1 : K.gen id = g := by omega
    rw [(b (by omega)).2.1]; exact h e1
  | eptr id g i off v hn hg hp h =>
    obtain ⟨a, b⟩ := hx.id id hn
    refine .eptr id g i off v (Nat.lt_of_lt_of_le hn hx.n) (Nat.le_trans hg a) hp fun e => ?_
    have e1 : K.gen id = g := by omega
    obtain ⟨p, _, q⟩ := b (by omega)
    rw [p, q]; exact h e1
  | ro b off vs f hst hc hr ih =>
    exact .ro b off vs f (Nat.le_trans hst (hx.σ b)) (fun j hj => (hx.cell b _ (by omega)).trans (hc j hj)) ih
  | clo f a b a' b' h1 h2 hf hc ih1 ih2 => exact .clo f a b a' b' h1 h2 ih1 ih2
  | tup cs vs hs hj ih => exact .tup cs vs hs ih
  | cmap r es cl l ix ky hst hm hky hu hix hk hall hv ih => exact .cmap r es cl l ix ky (Nat.lt_of_lt_of_le hst (hx.σ r)) (hx.map r _ hst hm) hky hu hix hk hall ih
  | ifc t => exact .ifc t
  | mapr id v hn hp h =>
    refine .mapr id v (Nat.lt_of_lt_of_le hn hx.n) hp fun e => ?_
    obtain ⟨a, b⟩ := hx.id id hn
    have e1 : K.gen id = 0 := by omega
    rw [(b (by omega)).1]; exact h e1
  | undef v => exact .undef v
  | yld id v hn hp h =>
    refine .yld id v (Nat.lt_of_lt_of_le hn hx.n) hp fun e => ?_
    obtain ⟨a, b⟩ := hx.id id hn
    have e1 : K.gen id = 0 := by omega
    rw [(b (by omega)).1]; exact h e1
  | known j v x hk h ih =>
    obtain ⟨F, h1, h2⟩ := hk
    refine .known j v x ⟨F, ?_, h2⟩ ih
    rcases hx.σ0 with q | q
    · rw [h1] at q; cases q
    · exact q.trans h1
/-- The ghost that holds no object. -/
def gh0 (σ : Nat → Nat) : Gh := { n := 0, ι := fun _ => 0, hv := fun _ => .nilIface, gen := fun _ => 0, esz := fun _ => 0, live := fun _ => false, σ := σ }
theorem gh0_ext {σ σ' : Nat → Nat} {w w' : World} (h1 : ∀ b, σ b ≤ σ' b) (h2 : ∀ b o, o < σ b → w'.cell? ⟨b, o, none⟩ = w.cell? ⟨b, o, none⟩) (h3 : ∀ b o, 0 < σ b → w.heap[b]? = some o → keeps o w'.heap[b]?) :
    Ext (gh0 σ) w (gh0 σ') w' := ⟨Nat.le_refl _, fun i hi => absurd hi (Nat.not_lt_zero i), h1, h2, h3, .inl rfl⟩
theorem Ext.gh0 {K K' : Gh} {w w' : World} (h : Ext K w K' w') : Ext (gh0 K.σ) w (gh0 K'.σ) w' := gh0_ext h.σ h.cell h.map
theorem gh0_to (K : Gh) (w : World) : Ext (gh0 K.σ) w K w := ⟨Nat.zero_le _, fun i hi => absurd hi (Nat.not_lt_zero i), fun _ => Nat.le_refl _, fun _ _ _ => rfl, fun _ _ _ h => keeps.of h, .inl rfl⟩
def GlobOK (C : Ctx S) (σ : Nat → Nat) (w : World) : Prop := ∀ g cs, C.G g = some cs → RepV C.E (gh0 σ) w (.pointer (some ⟨g, 0, none⟩)) (.ro cs) ∧ 0 < σ g ∧ ∃ c t f, w.heap[g]? = some (.cells c t f) ∧ c.size = cs.length
theorem GlobOK.mono {C : Ctx S} {K K' : Gh} {w w' : World} (h : GlobOK C K.σ w) (hx : Ext K w K' w') : GlobOK C K'.σ w' := by
  intro g cs hg
  obtain ⟨h1, h2, c, t, f, h3, h4⟩ := h g cs hg
  obtain ⟨c', t', f', k1, k2⟩ := hx.map g _ h2 h3
  exact ⟨h1.mono hx.gh0, Nat.lt_of_lt_of_le h2 (hx.σ g), c', t', f', k1, k2.trans h4⟩
def ArrOK (E : Env S) (K : Gh) (w : World) (B : Nat) (e : TypeId) (t : Ty) (l : List (den S t)) (fz : Bool) (hv : Value) (blk : Nat) (live : Bool) : Prop :=
  (live = false ∧ l = [] ∧ ∃ a, hv = .slice a 0 0) ∨
  (live = true ∧ ∃ (c : Array Value) (cap : Nat), hv = .slice (some ⟨blk, 0, none⟩) l.length cap ∧ l.length ≤ cap ∧ cap ≤ maxLen ∧ c.size = cap * tsize E t ∧ w.heap[blk]? = some (.cells c e (0, 0)) ∧
    (∀ (i : Nat) (x : den S t), l[i]? = some x → ∀ (j : Nat) (cl : Cell S), (cellsOf E t x)[j]? = some cl → ∃ v, c[i * tsize E t + j]? = some v ∧ Rep E K.σ w v cl.t cl.x) ∧
    K.σ blk ≤ l.length * tsize E t ∧ (fz = false → K.σ blk = 0) ∧ B ≤ blk)
/-- The entries of an own map of numbers and truths. -/
def MapOK : (kt vt : Ty) → Array MapEntry → List (den S kt × den S vt) → Prop
  | .int k, .bool, es, l => es.size = List.length (α := Int × Bool) l ∧ ∀ (j : Nat) (e : MapEntry) (p : Int × Bool), es[j]? = some e → (show List (Int × Bool) from l)[j]? = some p → e.key = .int k p.1 ∧ e.val = .bool p.2
  | _, _, _, _ => False
def ObjOK (E : Env S) (K : Gh) (w : World) (B : Nat) (i : Nat) : Ob S → Prop
  | .box cs fz => K.gen i = 0 ∧ K.live i = true ∧ ∃ c e, w.heap[K.ι i]? = some (.cells c e (0, 0)) ∧ c.size = cs.length ∧
      (∀ (j : Nat) (v : Value) (x : V S), c[j]? = some v → cs[j]? = some x → RepV E K w v x) ∧ (fz = false → K.σ (K.ι i) = 0 ∧ B ≤ K.ι i) ∧ (fz = true → c.size ≤ K.σ (K.ι i))
  | .arr e t l g fz => K.gen i = g ∧ K.esz i = tsize E t ∧ ArrOK E K w B e t l fz (K.hv i) (K.ι i) (K.live i)
  | .map kt vt l => K.gen i = 0 ∧ K.live i = true ∧ ∃ es clock, w.heap[K.ι i]? = some (.map es clock) ∧ MapOK kt vt es l ∧ K.σ (K.ι i) = 0 ∧ B ≤ K.ι i
  | .oth o => K.gen i = 0 ∧ K.live i = true ∧ w.heap[K.ι i]? = some o ∧ (∀ c t f, o ≠ .cells c t f) ∧ K.σ (K.ι i) = 0 ∧ B ≤ K.ι i
structure RelM (C : Ctx S) (K : Gh) (w : World) (B : Nat) (m : Mem S) : Prop where
  n : K.n = m.length
  ob : ∀ i o, m[i]? = some o → ObjOK C.E K w B i o
  inj : ∀ i j, i < K.n → j < K.n → K.live i = true → K.live j = true → K.ι i = K.ι j → i = j
  new : ∀ b, w.heap.size ≤ b → K.σ b = 0
  glob : GlobOK C K.σ w
  base : B ≤ w.heap.size
  /-- What was held at the start is held as it was. -/
  old : ∃ f, K.σ0 = some f ∧ ∀ b, b < B → K.σ b = f.1 b
/-- At one object nothing of the ghost turns. -/
def Gh.at (K K' : Gh) (i : Nat) : Prop := K'.ι i = K.ι i ∧ K'.hv i = K.hv i ∧ K'.gen i = K.gen i ∧ K'.esz i = K.esz i ∧ K'.live i = K.live i
theorem ObjOK.mono {E : Env S} {K K' : Gh} {w w' : World} {B i : Nat} {o : Ob S} (h : ObjOK E K w B i o) (hx : Ext K w K' w') (ha : K.at K' i)
    (hb : K.live i = true → w'.heap[K.ι i]? = w.heap[K.ι i]?) (hσ : K.live i = true → K'.σ (K.ι i) = K.σ (K.ι i)) : ObjOK E K' w' B i o := by
  obtain ⟨a1, a2, a3, a4, a5⟩ := ha
  cases o with
  | box cs fz =>
    obtain ⟨h0, hl, c, e, h1, h2, h3, h4, h5⟩ := h
    refine ⟨a3.trans h0, a5.trans hl, c, e, ?_, h2, fun j v x p q => (h3 j v x p q).mono hx, fun f => ?_, ?_⟩
    · rw [a1, hb hl]; exact h1
    · rw [a1, hσ hl]; exact h4 f
    · rw [a1, hσ hl]; exact h5
  | arr e t l g fz =>
    obtain ⟨h0, h1, h2⟩ := h
    refine ⟨a3.trans h0, a4.trans h1, ?_⟩
    rw [a2, a1, a5]
    rcases h2 with ⟨hl, h⟩ | ⟨hl, c, cap, p1, p2, p3, p4, p5, p6, p7, p8, p9⟩
    · exact .inl ⟨hl, h⟩
    · refine .inr ⟨hl, c, cap, p1, p2, p3, p4, (hb hl).trans p5, ?_, ?_, ?_, p9⟩
      · intro i x hi j cl hj
        obtain ⟨v, q1, q2⟩ := p6 i x hi j cl hj
        exact ⟨v, q1, q2.mono hx.σ hx.cell⟩
      · rw [hσ hl]; exact p7
      · rw [hσ hl]; exact p8
  | map kt vt l =>
    obtain ⟨h0, hl, es, cl, h1, h2, h3, h4⟩ := h
    exact ⟨a3.trans h0, a5.trans hl, es, cl, by rw [a1, hb hl]; exact h1, h2, by rw [a1, hσ hl]; exact h3, by rw [a1]; exact h4⟩
  | oth ob =>
    obtain ⟨h0, hl, h1, h2, h3, h4⟩ := h
    exact ⟨a3.trans h0, a5.trans hl, by rw [a1, hb hl]; exact h1, h2, by rw [a1, hσ hl]; exact h3, by rw [a1]; exact h4⟩
/-- The world grows, or turns beside what is held; the ghost's stable parts grow in new blocks alone. -/
theorem RelM.frame {C : Ctx S} {K K' : Gh} {w w' : World} {B : Nat} {m : Mem S} (h : RelM C K w B m) (hx : Ext K w K' w') (hn : K'.n = K.n) (ha : ∀ i, i < K.n → K.at K' i)
    (hb : ∀ i, i < K.n → K.live i = true → w'.heap[K.ι i]? = w.heap[K.ι i]?) (hσ : ∀ i, i < K.n → K.live i = true → K'.σ (K.ι i) = K.σ (K.ι i))
    (hnew : ∀ b, w'.heap.size ≤ b → K'.σ b = 0) (hs : w.heap.size ≤ w'.heap.size) (hold : ∀ b, b < B → K'.σ b = K.σ b) : RelM C K' w' B m where
  n := hn.trans h.n
  ob i o hi := by
    have hl : i < K.n := by rw [h.n]; exact (List.getElem?_eq_some_iff.1 hi).1
    exact (h.ob i o hi).mono hx (ha i hl) (hb i hl) (hσ i hl)
  inj i j hi hj li lj e := by
    rw [hn] at hi hj
    obtain ⟨a1, _, _, _, a5⟩ := ha i hi
    obtain ⟨b1, _, _, _, b5⟩ := ha j hj
    exact h.inj i j hi hj (a5 ▸ li) (b5 ▸ lj) (by rw [← a1, ← b1]; exact e)
  new := hnew
  glob := h.glob.mono hx
  base := Nat.le_trans h.base hs
  old := by
    obtain ⟨f, h1, h2⟩ := h.old
    refine ⟨f, ?_, fun b hb => (hold b hb).trans (h2 b hb)⟩
    rcases hx.σ0 with q | q
    · rw [h1] at q; cases q
    · exact q.trans h1
end Go.Lv
namespace Go.Lv
set_option linter.all false
open Go Go.RowKit
variable {S : Nat → Type}
theorem RepV.getD {E : Env S} {K : Gh} {w : World} {cs : Array Value} {vs : List (V S)} (hs : cs.size = vs.length)
    (hj : ∀ (j : Nat) (c : Value) (v : V S), cs[j]? = some c → vs[j]? = some v → RepV E K w c v) (j : Nat) : RepV E K w (cs.getD j Go.undef) (vs.getD j .undef) := by
  by_cases h : j < cs.size
  · have h' : j < vs.length := hs ▸ h
    have := hj j cs[j] vs[j] (by simp [h]) (by simp [h'])
    simpa [Array.getD, h, List.getD, h'] using this
  · have h' : ¬ j < vs.length := hs ▸ h
    simp only [List.getD, List.getElem?_eq_none (Nat.le_of_not_lt h'), Option.getD_none]
    exact .undef _
structure RelS (C : Ctx S) (K : Gh) (w : World) (B : Nat) (s : St S) (a : Act) : Prop where
  size : a.tmps.size = s.tmps.length
  tmps : ∀ (j : Nat) (c : Value) (v : V S), a.tmps[j]? = some c → s.tmps[j]? = some v → RepV C.E K w c v
  defers : a.defers = []
  mem : RelM C K w B s.mem
theorem ofConst_rep (E : Env S) (K : Gh) (w : World) (v : Value) : RepV E K w v (ofConst v) := by
  have one : ∀ u : Value, RepV E K w u (match u with
    | .bool b => .cell .bool b
    | .int k n => .cell (.int k) n
    | .string s => .cell .str s.data.toList
    | .slice none 0 0 => .nilS
    | .nilIface => .cell .err false
    | _ => .undef) := by
    intro u
    split
    · exact .cell (.bool _)
    · exact .cell (.int _ _)
    · rename_i s; have := Rep.str (E := E) (σ := K.σ) (w := w) s.data.toList; exact .cell (by simpa using this)
    · exact .nilS none
    · exact .cell .errNil
    · exact .undef _
  unfold ofConst
  split
  · exact .cell (.bool _)
  · exact .cell (.int _ _)
  · rename_i s; have := Rep.str (E := E) (σ := K.σ) (w := w) s.data.toList; exact .cell (by simpa using this)
  · exact .nilS none
  · exact .cell .errNil
  · rename_i cs
    refine .agg cs _ (by simp) fun j c v hc hv => ?_
    rw [List.getElem?_map, Array.getElem?_toList, hc] at hv
    simp only [Option.map_some, Option.some.injEq] at hv
    subst hv
    exact one c
  · exact .undef _
theorem RepV.bare {E : Env S} {K : Gh} {w : World} {v : Value} {x : V S} (h : RepV E K w v x) : RepV E K w v x.bare := by
  cases h with
  | known j v x hk h => exact h
  | cell h => exact .cell h
  | full h => exact .full h
  | nilS a => exact .nilS a
  | agg cs vs hs hj => exact .agg cs vs hs hj
  | ptr id off v hn hp h => exact .ptr id off v hn hp h
  | own id g v hn hg hp h => exact .own id g v hn hg hp h
  | eptr id g i off v hn hg hp h => exact .eptr id g i off v hn hg hp h
  | ro b off vs f hst hc hr => exact .ro b off vs f hst hc hr
  | clo f a b a' b' h1 h2 hf hc => exact .clo f a b a' b' h1 h2 hf hc
  | tup cs vs hs hj => exact .tup cs vs hs hj
  | cmap r es cl l ix ky hst hm hky hu hix hk hall hv => exact .cmap r es cl l ix ky hst hm hky hu hix hk hall hv
  | ifc t => exact .ifc t
  | mapr id v hn hp h => exact .mapr id v hn hp h
  | undef v => exact .undef v
  | yld id v hn hp h => exact .yld id v hn hp h
theorem RelS.ev {C : Ctx S} {K : Gh} {w : World} {B : Nat} {s : St S} {a : Act} (h : RelS C K w B s a) (x : Operand) : RepV C.E K w (a.eval x) (s.ev C x) := by
  cases x with
  | tmp t => exact (RepV.getD h.size h.tmps t).bare
  | const v => exact ofConst_rep C.E K w v
  | global g =>
    simp only [Act.eval, St.ev]
    split
    · rename_i cs hg; exact (h.mem.glob g cs hg).1.mono (gh0_to K w)
    · exact .undef _
  | func f => exact .clo f #[] #[] [] [] rfl rfl (by simp) (by simp)
/-- A value's cells. -/
theorem RepV.cells {E : Env S} {K : Gh} {w : World} {v : Value} {x : V S} (h : RepV E K w v x) (hd : x.defd = true) :
    v.cells.size = x.cells.length ∧ ∀ (j : Nat) (c : Value) (y : V S), v.cells[j]? = some c → x.cells[j]? = some y → RepV E K w c y := by
  have one : ∀ {v : Value} {x : V S}, RepV E K w v x → v.cells = #[v] → x.cells = [x] →
      v.cells.size = x.cells.length ∧ ∀ (j : Nat) (c : Value) (y : V S), v.cells[j]? = some c → x.cells[j]? = some y → RepV E K w c y := by
    intro v x h hv hx
    rw [hv, hx]
    refine ⟨rfl, fun j c y hc hy => ?_⟩
    cases j with
    | zero => simp at hc hy; subst hc; subst hy; exact h
    | succ j => simp at hc
  have plain : ∀ {v : Value} {t : Ty} {x : den S t}, Rep E K.σ w v t x → v.cells = #[v] := by intro v t x h; cases h <;> rfl
  cases h with
  | agg cs vs hs hj => exact ⟨hs, hj⟩
  | mapr id v hn hp h => obtain ⟨a, rfl⟩ := hp; exact one (.mapr id _ hn ⟨a, rfl⟩ h) rfl rfl
  | undef v => simp [V.defd] at hd
  | tup cs vs hs hj => simp [V.defd] at hd
  | known j v x hk h => simp [V.defd] at hd
  | yld id v hn hp h => obtain ⟨a, rfl⟩ := hp; exact one (.yld id _ hn ⟨a, rfl⟩ h) rfl rfl
  | cell h => exact one (.cell h) (plain h) rfl
  | full h => exact one (.full h) rfl rfl
  | nilS a => exact one (.nilS a) rfl rfl
  | ptr id off v hn hp h => obtain ⟨a, rfl⟩ := hp; exact one (.ptr id off _ hn ⟨a, rfl⟩ h) rfl rfl
  | own id g v hn hg hp h => obtain ⟨a, n, c, rfl⟩ := hp; exact one (.own id g _ hn hg ⟨a, n, c, rfl⟩ h) rfl rfl
  | eptr id g i off v hn hg hp h => obtain ⟨a, rfl⟩ := hp; exact one (.eptr id g i off _ hn hg ⟨a, rfl⟩ h) rfl rfl
  | ro b off vs f hst hc hr => exact one (.ro b off vs f hst hc hr) rfl rfl
  | clo f a b a' b' h1 h2 hf hc => exact one (.clo f a b a' b' h1 h2 hf hc) rfl rfl
  | cmap r es cl l ix ky hst hm hky hu hix hk hall hv => exact one (.cmap r es cl l ix ky hst hm hky hu hix hk hall hv) rfl rfl
  | ifc t => exact one (.ifc t) rfl rfl
theorem RepV.oneCell {E : Env S} {K : Gh} {w : World} {v : Value} {x : V S} (h : RepV E K w v x) (hd : x.one = true) : v.oneCell' = true := by
  cases h with
  | cell h => exact h.one
  | full h => rfl
  | nilS a => rfl
  | ptr id off v hn hp h => obtain ⟨a, rfl⟩ := hp; rfl
  | own id g v hn hg hp h => obtain ⟨a, n, c, rfl⟩ := hp; rfl
  | eptr id g i off v hn hg hp h => obtain ⟨a, rfl⟩ := hp; rfl
  | ro => rfl
  | clo => rfl
  | cmap => rfl
  | ifc => rfl
  | agg => simp [V.one] at hd
  | tup => simp [V.one] at hd
  | mapr id v hn hp h => obtain ⟨a, rfl⟩ := hp; rfl
  | undef => simp [V.one] at hd
  | known => simp [V.one] at hd
  | yld id v hn hp h => obtain ⟨a, rfl⟩ := hp; rfl
/-- What is told of a new block. -/
def Gh.push (K : Gh) (b : Nat) (hv : Value) (esz : Nat) (live : Bool) : Gh :=
  { K with n := K.n + 1, ι := fun i => if i = K.n then b else K.ι i, hv := fun i => if i = K.n then hv else K.hv i, gen := fun i => if i = K.n then 0 else K.gen i,
           esz := fun i => if i = K.n then esz else K.esz i, live := fun i => if i = K.n then live else K.live i }
theorem Gh.push_at (K : Gh) (b : Nat) (hv : Value) (esz : Nat) (live : Bool) {i : Nat} (h : i < K.n) : K.at (K.push b hv esz live) i := by
  have : i ≠ K.n := by omega
  simp [Gh.at, Gh.push, this]
theorem Gh.push_ext {K : Gh} {w w' : World} (b : Nat) (hv : Value) (esz : Nat) (live : Bool) (hc : ∀ b o, o < K.σ b → w'.cell? ⟨b, o, none⟩ = w.cell? ⟨b, o, none⟩)
    (hm : ∀ b o, 0 < K.σ b → w.heap[b]? = some o → keeps o w'.heap[b]?) : Ext K w (K.push b hv esz live) w' where
  n := Nat.le_succ _
  id i hi := by
    obtain ⟨a1, a2, a3, a4, _⟩ := K.push_at b hv esz live hi
    exact ⟨Nat.le_of_eq a3.symm, fun _ => ⟨a1, a2, a4⟩⟩
  σ _ := Nat.le_refl _
  cell := hc
  map := hm
  σ0 := .inr rfl
/-- A new object. -/
theorem RelM.push {C : Ctx S} {K : Gh} {w w' : World} {B : Nat} {m : Mem S} (h : RelM C K w B m) {b : Nat} {hv : Value} {esz : Nat} {live : Bool} {o : Ob S}
    (hs : w.heap.size ≤ w'.heap.size) (hb : ∀ k, k < w.heap.size → w'.heap[k]? = w.heap[k]?) (hlive : live = true → w.heap.size ≤ b)
    (ho : ObjOK C.E (K.push b hv esz live) w' B K.n o) : RelM C (K.push b hv esz live) w' B (m ++ [o]) ∧ Ext K w (K.push b hv esz live) w' := by
  have hcell : ∀ b o, o < K.σ b → w'.cell? ⟨b, o, none⟩ = w.cell? ⟨b, o, none⟩ := by
    intro b o ho
    by_cases hbb : b < w.heap.size
    · exact World.cell?_of_block (hb b hbb)
    · rw [h.new b (by omega)] at ho; omega
  have hmap : ∀ b o, 0 < K.σ b → w.heap[b]? = some o → keeps o w'.heap[b]? := by
    intro b ob h0 he
    have hbb : b < w.heap.size := by
      rcases Nat.lt_or_ge b w.heap.size with q | q
      · exact q
      · rw [h.new b q] at h0; omega
    rw [hb b hbb]; exact keeps.of he
  have hx : Ext K w (K.push b hv esz live) w' := Gh.push_ext b hv esz live hcell hmap
  have hblk : ∀ i, i < K.n → K.live i = true → K.ι i < w.heap.size := by
    intro i hi hl
    have hi' : i < m.length := h.n ▸ hi
    have := h.ob i m[i] (by simp [hi'])
    cases hm : m[i] with
    | box cs fz =>
      rw [hm] at this
      obtain ⟨_, _, c, e, h1, _⟩ := this
      rcases Nat.lt_or_ge (K.ι i) w.heap.size with q | q
      · exact q
      · simp [Array.getElem?_eq_none q] at h1
    | arr e t l g fz =>
      rw [hm] at this
      obtain ⟨_, _, h2⟩ := this
      rcases h2 with ⟨q, _⟩ | ⟨_, c, cap, _, _, _, _, h1, _⟩
      · rw [q] at hl; cases hl
      · rcases Nat.lt_or_ge (K.ι i) w.heap.size with q | q
        · exact q
        · simp [Array.getElem?_eq_none q] at h1
    | map kt vt l =>
      rw [hm] at this
      obtain ⟨_, _, es, cl, h1, _⟩ := this
      rcases Nat.lt_or_ge (K.ι i) w.heap.size with q | q
      · exact q
      · simp [Array.getElem?_eq_none q] at h1
    | oth ob =>
      rw [hm] at this
      obtain ⟨_, _, h1, _⟩ := this
      rcases Nat.lt_or_ge (K.ι i) w.heap.size with q | q
      · exact q
      · simp [Array.getElem?_eq_none q] at h1
  refine ⟨⟨?_, ?_, ?_, ?_, ?_, Nat.le_trans h.base hs, h.old⟩, hx⟩
  · simp [Gh.push, h.n]
  · intro i o' hi
    by_cases hlt : i < m.length
    · rw [List.getElem?_append_left hlt] at hi
      have hin : i < K.n := h.n ▸ hlt
      exact (h.ob i o' hi).mono hx (K.push_at b hv esz live hin) (fun hl => hb _ (hblk i hin hl)) (fun _ => rfl)
    · have : i = K.n := by
        have := (List.getElem?_eq_some_iff.1 hi).1
        simp at this
        rw [h.n]; omega
      subst this
      rw [List.getElem?_append_right (by rw [h.n]; exact Nat.le_refl _), h.n] at hi
      simp at hi
      subst hi
      exact ho
  · intro i j hi hj li lj e
    simp only [Gh.push] at hi hj li lj e
    by_cases hin : i = K.n <;> by_cases hjn : j = K.n
    · omega
    · simp only [hin, hjn, if_true, if_false] at li lj e
      have := hblk j (by omega) lj
      have := hlive li
      omega
    · simp only [hin, hjn, if_true, if_false] at li lj e
      have := hblk i (by omega) li
      have := hlive lj
      omega
    · simp only [hin, hjn, if_false] at li lj e
      exact h.inj i j (by omega) (by omega) li lj e
  · intro b' hb'
    exact h.new b' (Nat.le_trans hs hb')
  · intro g cs hg
    exact h.glob.mono hx g cs hg
theorem RelM.blk {C : Ctx S} {K : Gh} {w : World} {B : Nat} {m : Mem S} (h : RelM C K w B m) {i : Nat} (hi : i < K.n) (hl : K.live i = true) : K.ι i < w.heap.size := by
  have hi' : i < m.length := h.n ▸ hi
  have := h.ob i m[i] (by simp [hi'])
  cases hm : m[i] with
  | box cs fz =>
    rw [hm] at this
    obtain ⟨_, _, c, e, h1, _⟩ := this
    rcases Nat.lt_or_ge (K.ι i) w.heap.size with q | q
    · exact q
    · simp [Array.getElem?_eq_none q] at h1
  | arr e t l g fz =>
    rw [hm] at this
    obtain ⟨_, _, h2⟩ := this
    rcases h2 with ⟨q, _⟩ | ⟨_, c, cap, _, _, _, _, h1, _⟩
    · rw [q] at hl; cases hl
    · rcases Nat.lt_or_ge (K.ι i) w.heap.size with q | q
      · exact q
      · simp [Array.getElem?_eq_none q] at h1
  | map kt vt l =>
    rw [hm] at this
    obtain ⟨_, _, es, cl, h1, _⟩ := this
    rcases Nat.lt_or_ge (K.ι i) w.heap.size with q | q
    · exact q
    · simp [Array.getElem?_eq_none q] at h1
  | oth ob =>
    rw [hm] at this
    obtain ⟨_, _, h1, _⟩ := this
    rcases Nat.lt_or_ge (K.ι i) w.heap.size with q | q
    · exact q
    · simp [Array.getElem?_eq_none q] at h1
/-- One object turns, in its own block or in a new one. -/
theorem RelM.set {C : Ctx S} {K K' : Gh} {w w' : World} {B : Nat} {m : Mem S} (h : RelM C K w B m) {i : Nat} {o : Ob S} (hi : i < K.n) (hx : Ext K w K' w') (hn : K'.n = K.n)
    (ha : ∀ j, j < K.n → j ≠ i → K.at K' j) (hσ : ∀ b, K'.σ b = K.σ b ∨ (K.live i = true ∧ b = K.ι i ∧ B ≤ b))
    (hb : ∀ k, k < w.heap.size → (K.live i = true → k ≠ K.ι i) → w'.heap[k]? = w.heap[k]?) (hs : w.heap.size ≤ w'.heap.size)
    (hι : K'.live i = true → (K.live i = true ∧ K'.ι i = K.ι i) ∨ w.heap.size ≤ K'.ι i)
    (hnew : ∀ b, w'.heap.size ≤ b → K'.σ b = 0) (ho : ObjOK C.E K' w' B i o) : RelM C K' w' B (m.set i o) where
  n := by rw [hn, h.n]; simp
  ob j o' hj := by
    by_cases e : j = i
    · subst e
      rw [List.getElem?_set_self (by rw [← h.n]; exact hi)] at hj
      cases hj; exact ho
    · rw [List.getElem?_set_ne (fun q => e q.symm)] at hj
      have hjn : j < K.n := by rw [h.n]; exact (List.getElem?_eq_some_iff.1 hj).1
      refine (h.ob j o' hj).mono hx (ha j hjn e) (fun hl => hb _ (h.blk hjn hl) fun hli q => e (h.inj j i hjn hi hl hli q)) (fun hl => ?_)
      rcases hσ (K.ι j) with q | ⟨hli, q, _⟩
      · exact q
      · exact absurd (h.inj j i hjn hi hl hli q) e
  inj j k hj hk lj lk e := by
    rw [hn] at hj hk
    by_cases e1 : j = i <;> by_cases e2 : k = i
    · omega
    · subst e1
      obtain ⟨b1, _, _, _, b5⟩ := ha k hk e2
      rw [b5] at lk
      rcases hι lj with ⟨q1, q2⟩ | q
      · exact h.inj j k hj hk q1 lk (by rw [← q2, e, b1])
      · have := h.blk hk lk; rw [e, b1] at q; omega
    · subst e2
      obtain ⟨b1, _, _, _, b5⟩ := ha j hj e1
      rw [b5] at lj
      rcases hι lk with ⟨q1, q2⟩ | q
      · exact h.inj j k hj hk lj q1 (by rw [← q2, ← e, b1])
      · have := h.blk hj lj; rw [← e, b1] at q; omega
    · obtain ⟨b1, _, _, _, b5⟩ := ha j hj e1
      obtain ⟨c1, _, _, _, c5⟩ := ha k hk e2
      exact h.inj j k hj hk (b5 ▸ lj) (c5 ▸ lk) (by rw [← b1, ← c1]; exact e)
  new := hnew
  glob := h.glob.mono hx
  base := Nat.le_trans h.base hs
  old := by
    obtain ⟨f, h1, h2⟩ := h.old
    refine ⟨f, ?_, fun b hb => ?_⟩
    · rcases hx.σ0 with q | q
      · rw [h1] at q; cases q
      · exact q.trans h1
    · rcases hσ b with q | ⟨q1, q2, q3⟩
      · exact q.trans (h2 b hb)
      · omega
end Go.Lv
namespace Go.Lv
set_option linter.all false
open Go Go.RowKit
variable {S : Nat → Type}
/-- What an operation's run comes to. -/
def OpRes (C : Ctx S) (K : Gh) (w : World) (B : Nat) (r : Result Next) (x : V S) (m' : Mem S) : Prop :=
  (∃ K' w' v, (r = .ok (.value v) w' ∨ (r = .ok .skip w' ∧ v = Go.undef)) ∧ Ext K w K' w' ∧ Below B w w' ∧ RelM C K' w' B m' ∧ RepV C.E K' w' v x) ∨
  (∃ f args, r = .ok (.enter f args) w ∧ Calls C.P f args w fun e w' => ∃ v K', e = .returned v ∧ Ext K w K' w' ∧ Below B w w' ∧ RelM C K' w' B m' ∧ RepV C.E K' w' v x)
/-- What a value's run comes to. -/
def VRes (C : Ctx S) (K : Gh) (w : World) (B : Nat) (r : Result Value) (x : V S) (m' : Mem S) : Prop :=
  ∃ K' w' v, r = .ok v w' ∧ Ext K w K' w' ∧ Below B w w' ∧ RelM C K' w' B m' ∧ RepV C.E K' w' v x
section
variable {C : Ctx S} {K : Gh} {w : World} {B : Nat} {m : Mem S}
theorem VRes.pur (h : RelM C K w B m) {r : Result Value} {v : Value} {x : V S} (hr : r = .ok v w) (hv : RepV C.E K w v x) : VRes C K w B r x m :=
  ⟨K, w, v, hr, .refl K w, Below.refl B w, h, hv⟩
theorem VRes.val {s : Sem Value} {x : V S} {m' : Mem S} (h : VRes C K w B (s.run C.P w) x m') : OpRes C K w B ((do pure (.value (← s)) : Sem Next).run C.P w) x m' := by
  obtain ⟨K', w', v, hr, h⟩ := h
  exact .inl ⟨K', w', v, .inl (by simp [hr]), h⟩
theorem int_of {v : Value} {k : IntKind} {n : Int} (h : RepV C.E K w v (.cell (.int k) n)) : v = .int k n := by
  cases h with | cell h => exact h.int_inv
theorem bool_of {v : Value} {b : Bool} (h : RepV C.E K w v (.cell .bool b)) : v = .bool b := by
  cases h with | cell h => exact h.bool_inv
theorem str_of {v : Value} {b : List UInt8} (h : RepV C.E K w v (.cell .str b)) : v = .string ⟨b.toArray⟩ := by
  cases h with | cell h => exact h.str_inv
theorem binInt_run (P : Program) (op : BinOp) (t : TypeId) (k k' : IntKind) (a b : Int) (x : V S) (h : (binInt (S := S) op k k' a b).opt = some x) :
    ∃ v, (binOp op t (.int k a) (.int k' b)).run P w = .ok v w ∧ RepV C.E K w v x := by
  unfold binInt at h
  split at h
  · simp only [D.opt] at h
    by_cases hb : b < 0
    · simp [hb] at h
    · simp only [hb, decide_false, cond_false, Option.some.injEq] at h
      subst h
      refine ⟨_, ?_, .cell (.int _ _)⟩
      simp [binOp, Op.shift, hb, shl]
  · simp only [D.opt] at h
    by_cases hb : b < 0
    · simp [hb] at h
    · simp only [hb, decide_false, cond_false, Option.some.injEq] at h
      subst h
      refine ⟨_, ?_, .cell (.int _ _)⟩
      simp [binOp, Op.shift, hb, shr]
  · split at h
    · rename_i hk
      subst hk
      unfold intOp at h
      split at h <;> simp only [D.opt, Option.some.injEq, reduceCtorEq] at h
      all_goals first
        | (subst h; refine ⟨_, ?_, .cell (.int _ _)⟩; simp [binOp, Op.intArith, Op.intBits, Op.intCmp]; done)
        | (subst h; refine ⟨_, ?_, .cell (.bool _)⟩; simp [binOp, Op.intArith, Op.intBits, Op.intCmp]; done)
        | (by_cases hb : b = 0
           · simp [hb] at h; done
           · have hb' : (b == 0) = false := by simp [hb]
             simp only [hb', cond_false, Option.some.injEq] at h
             subst h
             refine ⟨_, ?_, .cell (.int _ _)⟩
             simp [binOp, Op.intDiv, hb]; done)
    · simp [D.opt] at h
theorem guard_int (op : BinOp) (t : TypeId) (x y : Operand) (k : IntKind) (n : Int) (v : Value) : eqGuard op t x y (.int k n) v = pure () := by cases op <;> rfl
theorem guard_bool (op : BinOp) (t : TypeId) (x y : Operand) (k : Bool) (v : Value) : eqGuard op t x y (.bool k) v = pure () := by cases op <;> rfl
theorem guard_str (op : BinOp) (t : TypeId) (x y : Operand) (k : ByteArray) (v : Value) : eqGuard op t x y (.string k) v = pure () := by cases op <;> rfl
theorem guard_if (op : BinOp) (t : TypeId) (x y : Operand) (d : TypeId) (k : Value) (v : Value) : eqGuard op t x y (.iface d k) v = pure () := by cases op <;> rfl
theorem guard_nil (op : BinOp) (t : TypeId) (x : Operand) (c : Value) : eqGuard op t x (.const c) .nilIface .nilIface = pure () := by cases op <;> cases x <;> rfl
def gb (op : BinOp) (t : TypeId) (xo yo : Operand) (a b : Value) : Sem Value := do eqGuard op t xo yo a b; binOp op t a b
theorem gb_int (op : BinOp) (t : TypeId) (xo yo : Operand) (k k' : IntKind) (a b : Int) (z : V S) (h : (binInt (S := S) op k k' a b).opt = some z) :
    ∃ v, (gb op t xo yo (.int k a) (.int k' b)).run C.P w = .ok v w ∧ RepV C.E K w v z := by
  obtain ⟨v, hv, hr⟩ := binInt_run (C := C) (K := K) (w := w) C.P op t _ _ _ _ z h
  exact ⟨v, by simp [gb, guard_int, hv], hr⟩
theorem gb_bool (op : BinOp) (t : TypeId) (xo yo : Operand) (a b : Bool) (z : V S) (ht : C.P.underlying t = some .bool) (h : (binBool (S := S) op a b).opt = some z) :
    ∃ v, (gb op t xo yo (.bool a) (.bool b)).run C.P w = .ok v w ∧ RepV C.E K w v z := by
  unfold binBool at h
  split at h <;> simp only [D.opt, Option.some.injEq, reduceCtorEq] at h
  · subst h; exact ⟨_, by simp [gb, guard_bool, run_eql_bool w t _ _ ht], .cell (.bool _)⟩
  · subst h; exact ⟨_, by simp [gb, guard_bool, run_neq_bool w t _ _ ht], .cell (.bool _)⟩
theorem gb_str (op : BinOp) (t : TypeId) (xo yo : Operand) (a b : List UInt8) (z : V S) (h : (binStr (S := S) op a b).opt = some z) :
    ∃ v, (gb op t xo yo (.string ⟨a.toArray⟩) (.string ⟨b.toArray⟩)).run C.P w = .ok v w ∧ RepV C.E K w v z := by
  unfold binStr at h
  split at h <;> simp only [D.opt, Option.some.injEq, reduceCtorEq] at h
  · subst h; refine ⟨_, ?_, .cell (.bool _)⟩; simp [gb, guard_str, binOp, Op.stringOp]
  · subst h; refine ⟨_, ?_, .cell (.bool _)⟩; simp [gb, guard_str, binOp, Op.stringOp]
  · by_cases hl : a.length + b.length ≤ 1152921504606846976
    · simp only [hl, decide_true, cond_true, Option.some.injEq] at h
      subst h
      refine ⟨_, ?_, .cell (.str _)⟩
      have h2 : (⟨a.toArray⟩ : ByteArray) ++ ⟨b.toArray⟩ = ⟨(a ++ b).toArray⟩ := by apply ByteArray.ext; simp
      have h3 := run_string_add_sum (P := C.P) w ⟨a.toArray⟩ ⟨b.toArray⟩ (by simp [ByteArray.size]; omega)
      simp only [gb, guard_str, binOp, Sem.run_bind, Sem.run_pure, Result.andThen_ok, h3, h2]
    · simp [hl] at h
theorem gb_err (op : BinOp) (t : TypeId) (xo yo : Operand) (a b : Bool) (va vb : Value) (ms : Array (String × TypeId)) (z : V S) (ht : C.P.underlying t = some (.interface ms)) (hyc : ∃ c, yo = .const c)
    (ha : Rep C.E K.σ w va .err a) (hb : Rep C.E K.σ w vb .err b) (h : (binErr (S := S) op a b).opt = some z) :
    ∃ v, (gb op t xo yo va vb).run C.P w = .ok v w ∧ RepV C.E K w v z := by
  have hm : C.P.underlying t = some (.interface (C.P.methodsAt t)) := by simp [Program.methodsAt, ht]
  unfold binErr at h
  cases b with
  | true => simp [D.opt] at h
  | false =>
    have eb : vb = .nilIface := by cases hb; rfl
    subst eb
    obtain ⟨c, rfl⟩ := hyc
    cases ha with
    | errNil =>
      simp only [Bool.false_eq_true, if_false] at h
      split at h <;> simp only [D.opt, Option.some.injEq, reduceCtorEq] at h
      · subst h; exact ⟨_, by simp [gb, guard_nil, run_eql_nil_nil w t hm], .cell (.bool _)⟩
      · subst h; exact ⟨_, by simp [gb, guard_nil, run_neq_nil_nil w t hm], .cell (.bool _)⟩
    | err u v =>
      simp only [Bool.false_eq_true, if_false] at h
      split at h <;> simp only [D.opt, Option.some.injEq, reduceCtorEq] at h
      · subst h; exact ⟨_, by simp [gb, guard_if, run_eql_held_nil w t _ _ hm], .cell (.bool _)⟩
      · subst h; exact ⟨_, by simp [gb, guard_if, run_neq_held_nil w t _ _ hm], .cell (.bool _)⟩
theorem run_isAgg0 {t : TypeId} {b : Bool} (h : isAgg? C t = some b) : (isAgg t).run C.P w = .ok b w := by
  unfold isAgg? at h
  cases hu : C.P.underlying t with
  | none => rw [hu] at h; cases h
  | some d =>
    rw [hu] at h
    simp only [Option.map_some, Option.some.injEq] at h
    subst h
    cases d <;> simp [isAgg, run_underlying hu]
theorem eqF_run {as bs : Array Value} {xs ys : List (V S)} (h1 : as.size = xs.length) (h2 : bs.size = ys.length) (ha : ∀ (j : Nat) (c : Value) (v : V S), as[j]? = some c → xs[j]? = some v → RepV C.E K w c v)
    (hb : ∀ (j : Nat) (c : Value) (v : V S), bs[j]? = some c → ys[j]? = some v → RepV C.E K w c v) (d : Nat) : ∀ (fs : List Field) (r : Bool), eqF C fs xs ys = some r → (Op.eqFields (d + 1) as bs fs).run C.P w = .ok r w
  | [], r, h => by
    simp only [eqF, Option.some.injEq] at h
    subst h
    simp [Op.eqFields]
  | f :: fs, r, h => by
    simp only [eqF] at h
    split at h
    · rename_i k0 k a k' b hu hx hy
      split at h
      · rename_i hc
        obtain ⟨rfl, hag, hnm⟩ := hc
        cases hr : eqF C fs xs ys with
        | none => rw [hr] at h; cases h
        | some r' =>
          rw [hr] at h
          simp only [Option.map_some, Option.some.injEq] at h
          subst h
          have ih := eqF_run h1 h2 ha hb d fs r' hr
          have l1 : f.offset < as.size := by rw [h1]; exact (List.getElem?_eq_some_iff.1 hx).1
          have l2 : f.offset < bs.size := by rw [h2]; exact (List.getElem?_eq_some_iff.1 hy).1
          have e1 : as[f.offset] = .int k a := int_of (ha f.offset _ _ (by simp [l1]) hx)
          have e2 : bs[f.offset] = .int k b := int_of (hb f.offset _ _ (by simp [l2]) hy)
          have p1 : (part f.type as f.offset).run C.P w = .ok (.int k a) w := by simp [part, run_isAgg0 (w := w) hag, l1, e1]
          have p2 : (part f.type bs f.offset).run C.P w = .ok (.int k b) w := by simp [part, run_isAgg0 (w := w) hag, l2, e2]
          have hne : f.name ≠ "_" := by
            intro q; rw [q] at hnm; simp at hnm
          have p3 := run_equalIn_int (P := C.P) w d f.type k k0 a b hu
          simp only [Op.eqFields, if_pos hne, Sem.run_bind, p1, p2, p3, Result.andThen_ok]
          have e3 : ieq a b = @BEq.beq Int _ a b := rfl
          rw [e3]
          generalize @BEq.beq Int _ a b = q
          cases q with
          | true => exact ih
          | false => rfl
      · cases h
    · cases h
theorem gb_agg (op : BinOp) (t : TypeId) (xo yo : Operand) (as bs : Array Value) (xs ys : List (V S)) (z : V S) (h1 : as.size = xs.length) (h2 : bs.size = ys.length) (ha : ∀ (j : Nat) (c : Value) (v : V S), as[j]? = some c → xs[j]? = some v → RepV C.E K w c v)
    (hb : ∀ (j : Nat) (c : Value) (v : V S), bs[j]? = some c → ys[j]? = some v → RepV C.E K w c v) (h : (binAgg C op t xs ys).opt = some z) :
    ∃ v, (gb op t xo yo (.agg as) (.agg bs)).run C.P w = .ok v w ∧ RepV C.E K w v z := by
  unfold binAgg at h
  split at h
  · rename_i fs hu
    split at h
    · rename_i hc
      cases hr : eqF C fs.toList xs ys with
      | none => rw [hr] at h; simp [D.ofOpt, D.bind, D.opt] at h
      | some r =>
        rw [hr] at h
        have hf : C.P.fieldsOf t = fs := by simp [Program.fieldsOf, hu]
        have hrun := run_equalIn_struct (P := C.P) w 9999 t as bs (by rw [hf]; exact hu) hc.1
        rw [hf, eqF_run h1 h2 ha hb 9998 _ _ hr] at hrun
        have hg := run_eqGuard_agg (P := C.P) w op t xo yo as bs hc.2
        simp only [D.ofOpt, D.bind] at h
        split at h <;> simp only [D.opt, Option.some.injEq, reduceCtorEq] at h
        · subst h
          exact ⟨_, by simp only [gb, Sem.run_bind, hg, Result.andThen_ok, run_eql_struct, hrun], .cell (.bool _)⟩
        · subst h
          exact ⟨_, by simp only [gb, Sem.run_bind, hg, Result.andThen_ok, run_neq_struct, hrun], .cell (.bool _)⟩
    · simp [D.opt] at h
  · simp [D.opt] at h
theorem bin_run (op : BinOp) (t : TypeId) (xo yo : Operand) (a b : Value) (x y z : V S) (ha : RepV C.E K w a x) (hb : RepV C.E K w b y) (yc : Bool) (hyc : yc = true → ∃ c, yo = .const c)
    (h : (binD C op t yc x y).opt = some z) :
    ∃ v, (gb op t xo yo a b).run C.P w = .ok v w ∧ RepV C.E K w v z := by
  unfold binD at h
  split at h
  · cases ha with
    | agg as _ a1 a2 => cases hb with
      | agg bs _ b1 b2 => exact gb_agg op t xo yo as bs _ _ z a1 b1 a2 b2 h
  · rw [int_of ha, int_of hb]; exact gb_int op t xo yo _ _ _ _ z h
  · rw [bool_of ha, bool_of hb]
    split at h
    · rename_i ht; exact gb_bool op t xo yo _ _ z ht h
    · simp [D.opt] at h
  · rw [str_of ha, str_of hb]; exact gb_str op t xo yo _ _ z h
  · split at h
    · rename_i ms ht
      split at h
      · rename_i hy
        cases ha with
        | cell ha => cases hb with
          | cell hb => exact gb_err op t xo yo _ _ a b ms z ht (hyc hy) ha hb h
      · simp [D.opt] at h
    · simp [D.opt] at h
  · simp [D.opt] at h
end
end Go.Lv
namespace Go.Lv
set_option linter.all false
open Go Go.RowKit
variable {S : Nat → Type}
section
variable {C : Ctx S} {K : Gh} {w : World} {B : Nat} {m : Mem S}
/-- What is read as a list is stable from now on. -/
def Frz (E : Env S) (K : Gh) (m : Mem S) (ids : List Nat) : Prop :=
  ∀ id, id ∈ ids → ∀ e t l g fz, m[id]? = some (.arr e t l g fz) → K.live id = true → l.length * tsize E t ≤ K.σ (K.ι id)
/-- Of one ghost another one differs in what is stable alone. -/
structure Same (K K' : Gh) : Prop where
  n : K'.n = K.n
  ι : K'.ι = K.ι
  hv : K'.hv = K.hv
  gen : K'.gen = K.gen
  esz : K'.esz = K.esz
  live : K'.live = K.live
  σ0 : K'.σ0 = K.σ0
theorem Same.trans {K K' K'' : Gh} (h : Same K K') (k : Same K' K'') : Same K K'' :=
  ⟨k.n.trans h.n, k.ι.trans h.ι, k.hv.trans h.hv, k.gen.trans h.gen, k.esz.trans h.esz, k.live.trans h.live, k.σ0.trans h.σ0⟩
/-- Memories that differ in what is marked alone. -/
def likeO : Option (Ob S) → Option (Ob S) → Prop
  | some (.arr e t l g fz), o => ∃ fz', o = some (.arr e t l g fz') ∧ (fz = true → fz' = true)
  | o, o' => o' = o
theorem likeO.refl (o : Option (Ob S)) : likeO o o := by
  cases o with
  | none => rfl
  | some o => cases o <;> first | rfl | exact ⟨_, rfl, id⟩
theorem likeO.trans {a b c : Option (Ob S)} (h : likeO a b) (k : likeO b c) : likeO a c := by
  cases a with
  | none => simp only [likeO] at h; subst h; exact k
  | some o =>
    cases o with
    | arr e t l g fz =>
      obtain ⟨f1, h1, h2⟩ := h
      subst h1
      obtain ⟨f2, k1, k2⟩ := k
      exact ⟨f2, k1, fun q => k2 (h2 q)⟩
    | box cs fz => simp only [likeO] at h; subst h; exact k
    | map kt vt l => simp only [likeO] at h; subst h; exact k
    | oth o => simp only [likeO] at h; subst h; exact k
def Like (m m' : Mem S) : Prop := m'.length = m.length ∧ ∀ i : Nat, likeO m[i]? m'[i]?
theorem Like.refl (m : Mem S) : Like m m := ⟨rfl, fun _ => likeO.refl _⟩
theorem Like.trans {m m' m'' : Mem S} (h : Like m m') (k : Like m' m'') : Like m m'' := ⟨k.1.trans h.1, fun i => (h.2 i).trans (k.2 i)⟩
theorem mark1_like (m : Mem S) (id : Nat) : Like m (mark1 m id) := by
  unfold mark1
  split
  · rename_i e t l g fz h
    have hlt : id < m.length := (List.getElem?_eq_some_iff.1 h).1
    refine ⟨by simp, fun i => ?_⟩
    by_cases hi : i = id
    · subst hi; rw [h, List.getElem?_set_self hlt]; exact ⟨true, rfl, fun _ => rfl⟩
    · rw [List.getElem?_set_ne (fun q => hi q.symm)]; exact likeO.refl _
  · exact Like.refl m
theorem mark_like (m : Mem S) : ∀ ids, Like m (mark m ids)
  | [] => Like.refl m
  | id :: ids => (mark1_like m id).trans (mark_like (mark1 m id) ids)
/-- Reading does not hang on the marks. -/
theorem decLeaf_like {m m' : Mem S} (hl : Like m m') (t : Ty) (z : V S) : decLeaf m' t z = decLeaf m t z := by
  cases z with
  | own id g =>
    simp only [decLeaf]
    have := hl.2 id
    cases hmm : m[id]? with
    | none => rw [hmm] at this; simp only [likeO] at this; rw [this]
    | some o =>
      rw [hmm] at this
      cases o with
      | arr e t l g fz => obtain ⟨f, q, _⟩ := this; rw [q]
      | box cs fz => simp only [likeO] at this; rw [this]
      | map kt vt l => simp only [likeO] at this; rw [this]
      | oth o => simp only [likeO] at this; rw [this]
  | clo f a b => cases a <;> cases b <;> rfl
  | _ => rfl
theorem freeze1 (h : RelM C K w B m) (id : Nat) : ∃ K', Ext K w K' w ∧ Same K K' ∧ RelM C K' w B (mark1 m id) ∧ Frz C.E K' (mark1 m id) [id] := by
  unfold mark1
  split
  · rename_i e t l g fz hm
    have hlt : id < m.length := (List.getElem?_eq_some_iff.1 hm).1
    have hin : id < K.n := h.n ▸ hlt
    obtain ⟨hg, hes, harr⟩ := h.ob id _ hm
    let K' : Gh := { K with σ := fun b => if K.live id = true ∧ b = K.ι id then max (K.σ b) (l.length * tsize C.E t) else K.σ b }
    have hx : Ext K w K' w := ⟨Nat.le_refl _, fun i _ => ⟨Nat.le_refl _, fun _ => ⟨rfl, rfl, rfl⟩⟩, fun b => by simp only [K']; split <;> omega, fun _ _ _ => rfl, fun _ _ _ q => keeps.of q, .inr rfl⟩
    have hs : Same K K' := ⟨rfl, rfl, rfl, rfl, rfl, rfl, rfl⟩
    refine ⟨K', hx, hs, ?_, ?_⟩
    · refine h.set hin hx rfl (fun j _ _ => ⟨rfl, rfl, rfl, rfl, rfl⟩) (fun b => ?_) (fun k _ _ => rfl) (Nat.le_refl _) (fun hl => .inl ⟨hl, rfl⟩) (fun b hb => ?_) ?_
      · by_cases q : K.live id = true ∧ b = K.ι id
        · refine .inr ⟨q.1, q.2, ?_⟩
          rcases harr with ⟨q', _⟩ | ⟨_, c, cap, _, _, _, _, _, _, _, _, p9⟩
          · rw [q'] at q; cases q.1
          · rw [q.2]; exact p9
        · left; simp only [K', q, if_false]
      · have : ¬ (K.live id = true ∧ b = K.ι id) := by rintro ⟨q1, q2⟩; have := h.blk hin q1; omega
        simp only [K', this, if_false]; exact h.new b hb
      · refine ⟨hg, hes, ?_⟩
        rcases harr with ⟨q, q'⟩ | ⟨q, c, cap, p1, p2, p3, p4, p5, p6, p7, p8, p9⟩
        · exact .inl ⟨q, q'⟩
        · refine .inr ⟨q, c, cap, p1, p2, p3, p4, p5, ?_, ?_, by simp, p9⟩
          · intro i x hi j cl hj
            obtain ⟨v, r1, r2⟩ := p6 i x hi j cl hj
            exact ⟨v, r1, r2.mono hx.σ hx.cell⟩
          · simp only [K', q, true_and, if_true]
            exact Nat.max_le.2 ⟨p7, Nat.le_refl _⟩
    · intro id' hid e' t' l' g' fz' hm' hl
      simp only [List.mem_singleton] at hid
      subst hid
      rw [List.getElem?_set_self hlt] at hm'
      cases hm'
      simp only [K'] at hl ⊢
      simp only [hl, true_and, if_true]
      exact Nat.le_max_right _ _
  · rename_i hne
    exact ⟨K, .refl K w, ⟨rfl, rfl, rfl, rfl, rfl, rfl, rfl⟩, h, fun id' hid e t l g fz hm _ => by simp only [List.mem_singleton] at hid; subst hid; exact absurd hm (hne e t l g fz)⟩
theorem Frz.mono {E : Env S} {K K' : Gh} {m m' : Mem S} {ids : List Nat} (h : Frz E K m ids) (hs : Same K K') (hσ : ∀ b, K.σ b ≤ K'.σ b) (hl : Like m m') : Frz E K' m' ids := by
  intro id hid e t l g fz hm hli
  have := hl.2 id
  rw [hm] at this
  rw [hs.ι]
  rw [hs.live] at hli
  cases hm0 : m[id]? with
  | none => rw [hm0] at this; cases this
  | some o =>
    rw [hm0] at this
    cases o with
    | arr e' t' l' g' fz' =>
      obtain ⟨f, q, _⟩ := this
      cases q
      exact Nat.le_trans (h id hid _ _ _ _ _ hm0 hli) (hσ _)
    | box cs fz => cases this
    | map kt vt l => cases this
    | oth o => cases this
theorem freeze (h : RelM C K w B m) : ∀ ids, ∃ K', Ext K w K' w ∧ Same K K' ∧ RelM C K' w B (mark m ids) ∧ Frz C.E K' (mark m ids) ids := by
  intro ids
  induction ids generalizing K m with
  | nil => exact ⟨K, .refl K w, ⟨rfl, rfl, rfl, rfl, rfl, rfl, rfl⟩, h, fun id hid => by cases hid⟩
  | cons id ids ih =>
    obtain ⟨K1, x1, s1, r1, f1⟩ := freeze1 h id
    obtain ⟨K2, x2, s2, r2, f2⟩ := ih r1
    refine ⟨K2, x1.trans x2, s1.trans s2, r2, ?_⟩
    intro id' hid
    rcases List.mem_cons.1 hid with q | q
    · subst q
      exact (f1.mono s2 x2.σ (mark_like _ ids)) id' (by simp)
    · exact f2 id' q
/-- What is read out of a value. -/
theorem decLeaf_rep (h : RelM C K w B m) {t : Ty} {v : Value} {x : V S} {y : den S t} (hv : RepV C.E K w v x) (hd : decLeaf m t x = some y)
    (hf : ∀ id g, x = .own id g → Frz C.E K m [id]) : Rep C.E K.σ w v t y := by
  cases hv with
  | @cell _ t' x hx =>
    simp only [decLeaf] at hd
    split at hd
    · rename_i e; subst e; cases hd; exact hx
    · cases hd
  | @full a t' l hx =>
    simp only [decLeaf] at hd
    split at hd
    · rename_i e; subst e; cases hd; exact hx
    · cases hd
  | nilS a =>
    simp only [decLeaf] at hd
    split at hd
    · cases hd; exact .nil _ _ _
    · cases hd
  | own id g v hn hg hp hh =>
    simp only [decLeaf] at hd
    split at hd
    · rename_i e t' l g' fz hm
      split at hd
      · rename_i eg
        subst eg
        split at hd
        · rename_i et
          subst et
          cases hd
          obtain ⟨h1, h2, h3⟩ := h.ob id _ hm
          rw [hh h1]
          rcases h3 with ⟨_, rfl, a, ha⟩ | ⟨hl, c, cap, p1, p2, p3, p4, p5, p6, p7, p8, p9⟩
          · rw [ha]; exact .nil _ _ _
          · rw [p1]
            have hσ := hf id g rfl id (by simp) _ _ _ _ _ hm hl
            refine .slice t' l (K.ι id) 0 cap (fun j => c.getD j Go.undef) p2 (by simpa using hσ) (fun j hj => ?_) (fun i x hi j cl hj => ?_)
            · have hjc : j < c.size := by rw [p4]; exact Nat.lt_of_lt_of_le hj (Nat.mul_le_mul_right _ p2)
              simp [World.cell?, p5, hjc, Array.getD]
            · obtain ⟨u, q1, q2⟩ := p6 i x hi j cl hj
              have hjc := (Array.getElem?_eq_some_iff.1 q1).1
              have : c.getD (i * tsize C.E t' + j) Go.undef = u := by
                rw [Array.getElem?_eq_getElem hjc] at q1
                simp only [Option.some.injEq] at q1
                simp [Array.getD, hjc, q1]
              rw [this]; exact q2
        · cases hd
      · cases hd
    · cases hd
  | clo f a b a' b' h1 h2 hf' hc =>
    cases a' with
    | cons _ _ => simp [decLeaf] at hd
    | nil =>
      cases b' with
      | cons _ _ => simp [decLeaf] at hd
      | nil =>
        simp only [decLeaf] at hd
        split at hd
        · cases hd
          have ea : a = #[] := by simpa using h1
          have eb : b = #[] := by simpa using h2
          subst ea eb; exact .fn f
        · cases hd
  | agg => simp [decLeaf] at hd
  | ptr => simp [decLeaf] at hd
  | eptr => simp [decLeaf] at hd
  | ro => simp [decLeaf] at hd
  | tup => simp [decLeaf] at hd
  | cmap => simp [decLeaf] at hd
  | ifc => simp [decLeaf] at hd
  | mapr => simp [decLeaf] at hd
  | undef => simp [decLeaf] at hd
  | known => simp [decLeaf] at hd
  | yld => simp [decLeaf] at hd
theorem leaf_enc (E : Env S) (t : Ty) (x : den S t) (h : ∀ n, t ≠ .st n) : encV E t x = .cell t x := by
  cases t <;> simp [encV]
  rename_i i; exact absurd rfl (h i)
/-- What a struct's cells are read as. -/
theorem ofC_rep (hE : EnvOK C.E) (h : RelM C K w B m) {i : Nat} {cs : Array Value} {vs : List (V S)} {y : S i} (hs : cs.size = vs.length)
    (hj : ∀ (j : Nat) (c : Value) (v : V S), cs[j]? = some c → vs[j]? = some v → RepV C.E K w c v) (hd : C.E.ofC i (decLeaf m) vs = some y)
    (hf : ∀ id g, V.own id g ∈ vs → Frz C.E K m [id]) :
    cs.size = (C.E.toC i y).length ∧ ∀ (j : Nat) (c : Value) (cl : Cell S), cs[j]? = some c → (C.E.toC i y)[j]? = some cl → Rep C.E K.σ w c cl.t cl.x := by
  obtain ⟨h1, h2⟩ := hE.back i (decLeaf m) vs y hd
  have hlen : (C.E.toC i y).length = (C.E.tys i).length := by rw [← hE.typed i y]; simp
  refine ⟨by rw [hs, h1, hlen], fun j c cl hc hcl => ?_⟩
  have hjl : j < vs.length := by rw [← hs]; exact (Array.getElem?_eq_some_iff.1 hc).1
  have hv : vs[j]? = some vs[j] := by simp [hjl]
  exact decLeaf_rep h (hj j c _ hc hv) (h2 j _ cl hv hcl) fun id g e => hf id g (e ▸ List.getElem_mem hjl)
theorem decSt_rep (hE : EnvOK C.E) (h : RelM C K w B m) {i : Nat} {v : Value} {x : V S} {y : S i} (hv : RepV C.E K w v x) (hd : decSt C.E m i x = some y)
    (hf : Frz C.E K m x.owns) : RepV C.E K w v (encV C.E (.st i) y) := by
  unfold decSt at hd
  split at hd
  · rename_i vs
    cases hv with
    | agg cs _ hs hj =>
      obtain ⟨h1, h2⟩ := ofC_rep hE h hs hj hd (fun id g hin => by
        intro id' hid'
        simp only [List.mem_singleton] at hid'
        subst hid'
        exact hf _ (by simp only [V.owns, List.mem_filterMap]; exact ⟨_, hin, rfl⟩))
      refine .agg cs _ (by simpa using h1) fun j c u hc hu => ?_
      rw [List.getElem?_map] at hu
      cases hcl : (C.E.toC i y)[j]? with
      | none => rw [hcl] at hu; simp at hu
      | some cl =>
        rw [hcl] at hu
        simp only [Option.map_some, Option.some.injEq] at hu
        subst hu
        exact .cell (h2 j c cl hc hcl)
  · cases hd
theorem dec_rep (hE : EnvOK C.E) (h : RelM C K w B m) {t : Ty} {v : Value} {x : V S} {y : den S t} (hv : RepV C.E K w v x) (hd : dec C.E m t x = some y)
    (hf : Frz C.E K m x.owns) : RepV C.E K w v (encV C.E t y) := by
  have leaf : ∀ (t : Ty) (y : den S t), (∀ n, t ≠ .st n) → decLeaf m t x = some y → RepV C.E K w v (encV C.E t y) := by
    intro t y ht hd
    rw [leaf_enc C.E t y ht]
    exact .cell (decLeaf_rep h hv hd fun id g e => by subst e; exact hf)
  cases t with
  | st i => exact decSt_rep hE h hv hd hf
  | bool => exact leaf .bool y (fun n q => by cases q) hd
  | int k => exact leaf (.int k) y (fun n q => by cases q) hd
  | str => exact leaf .str y (fun n q => by cases q) hd
  | err => exact leaf .err y (fun n q => by cases q) hd
  | fn => exact leaf .fn y (fun n q => by cases q) hd
  | slice t => exact leaf (.slice t) y (fun n q => by cases q) hd
end
end Go.Lv
namespace Go.Lv
set_option linter.all false
open Go Go.RowKit
variable {S : Nat → Type}
section
variable {C : Ctx S} {K : Gh} {w : World} {B : Nat} {m : Mem S}
theorem opt_ofOpt_bind {α β : Type} {o : Option α} {f : α → D β} {b : β} (h : ((D.ofOpt o).bind f).opt = some b) : ∃ a, o = some a ∧ (f a).opt = some b := by
  cases o with
  | none => simp [D.ofOpt, D.bind, D.opt] at h
  | some a => exact ⟨a, rfl, h⟩
theorem opt_bind_ret {α β : Type} {d : D α} {f : α → β} {b : β} (h : (d.bind fun a => .ret (f a)).opt = some b) : ∃ a, d.opt = some a ∧ f a = b := by
  rw [D.opt_bind] at h
  cases hd : d.opt with
  | none => rw [hd] at h; cases h
  | some a => rw [hd] at h; simp only [Option.bind_some, D.opt, Option.some.injEq] at h; exact ⟨a, rfl, h⟩
theorem opt_bind_some {α β : Type} {d : D α} {f : α → D β} {b : β} (h : (d.bind f).opt = some b) : ∃ a, d.opt = some a ∧ (f a).opt = some b := by
  rw [D.opt_bind] at h
  cases hd : d.opt with
  | none => rw [hd] at h; cases h
  | some a => rw [hd] at h; exact ⟨a, rfl, h⟩
theorem info_size {t n : Nat} (h : sizeOf? C t = some n) : ∃ i, C.P.info? t = some i ∧ i.size = n := by
  unfold sizeOf? at h
  cases hi : C.P.info? t with
  | none => rw [hi] at h; cases h
  | some i => rw [hi] at h; simp at h; exact ⟨i, rfl, h⟩
theorem run_sizeOf {t n : Nat} (h : sizeOf? C t = some n) : (sizeOf t).run C.P w = .ok n w := by
  obtain ⟨i, hi, hs⟩ := info_size h
  simp [sizeOf, typeInfo, hi, hs]
theorem run_isAgg {t : TypeId} {b : Bool} (h : isAgg? C t = some b) : (isAgg t).run C.P w = .ok b w := by
  unfold isAgg? at h
  cases hu : C.P.underlying t with
  | none => rw [hu] at h; cases h
  | some d => rw [hu] at h; cases d <;> simp at h <;> subst h <;> simp [isAgg, run_underlying hu]
theorem field_inv {s : TypeId} {f : Nat} {p : Nat × TypeId} (h : fieldAt? C s f = some p) :
    ∃ fs x n, C.P.underlying s = some (.struct fs) ∧ fs[f]? = some x ∧ sizeOf? C x.type = some (n + 1) ∧ p = (x.offset, x.type) := by
  unfold fieldAt? at h
  split at h
  · rename_i fs hu
    split at h
    · rename_i x hx
      split at h
      · rename_i n hn; cases h; exact ⟨fs, x, n, hu, hx, hn, rfl⟩
      · cases h
    · cases h
  · cases h
theorem run_fieldAt {s : TypeId} {f : Nat} {p : Nat × TypeId} (h : fieldAt? C s f = some p) (a : Addr) :
    (Instr.fieldAt s (.pointer (some a)) f).run C.P w = .ok (.pointer (some (a.add p.1))) w := by
  obtain ⟨fs, x, n, hu, hx, hn, rfl⟩ := field_inv h
  have hs := run_sizeOf (w := w) hn
  simp [Instr.fieldAt, run_underlying hu, hx, Instr.sureAddr, fieldPlace, hs]
theorem ro_drop {b off k : Nat} {vs : List (V S)} (h : RepV C.E K w (.pointer (some ⟨b, off, none⟩)) (.ro vs)) (hk : k ≤ vs.length) :
    RepV C.E K w (.pointer (some ⟨b, off + k, none⟩)) (.ro (vs.drop k)) := by
  cases h with
  | ro b off vs f hst hc hr =>
    refine .ro b (off + k) _ (fun j => f (k + j)) (by simp; omega) (fun j hj => ?_) (fun j v hv => ?_)
    · simp at hj
      have := hc (k + j) (by omega)
      rwa [← Nat.add_assoc] at this
    · rw [List.getElem?_drop] at hv
      exact hr _ v hv
theorem ro_pointer {v : Value} {vs : List (V S)} (h : RepV C.E K w v (.ro vs)) : ∃ b off, v = .pointer (some ⟨b, off, none⟩) := by
  cases h with | ro b off vs f hst hc hr => exact ⟨b, off, rfl⟩
theorem add_lit (b o n : Nat) : Addr.add ⟨b, o, none⟩ n = ⟨b, o + n, none⟩ := by
  unfold Addr.add; split <;> simp_all
/-- Further on from an address. -/
theorem fa_rep {off : Nat} {v : Value} {x y : V S} (hv : RepV C.E K w v x) (h : (semFA off x).opt = some y) :
    ∃ a, v = .pointer (some a) ∧ RepV C.E K w (.pointer (some (a.add off))) y := by
  unfold semFA at h
  split at h
  · rename_i id o
    simp only [D.opt, Option.some.injEq] at h
    subst h
    cases hv with
    | ptr _ _ _ hn hp hh =>
      obtain ⟨a, rfl⟩ := hp
      refine ⟨a, rfl, .ptr id _ _ hn ⟨_, rfl⟩ fun hg => ?_⟩
      have := hh hg
      simp only [Value.pointer.injEq, Option.some.injEq] at this
      subst this
      rw [add_lit]
  · rename_i cs
    split at h
    · rename_i hk
      simp only [D.opt, Option.some.injEq] at h
      subst h
      obtain ⟨b, o, rfl⟩ := ro_pointer hv
      exact ⟨_, rfl, by rw [add_lit]; exact ro_drop hv hk⟩
    · simp [D.opt] at h
  · rename_i id g i o
    simp only [D.opt, Option.some.injEq] at h
    subst h
    cases hv with
    | eptr _ _ _ _ _ hn hg hp hh =>
      obtain ⟨a, rfl⟩ := hp
      refine ⟨a, rfl, .eptr id g i _ _ hn hg ⟨_, rfl⟩ fun he => ?_⟩
      have := hh he
      simp only [Value.pointer.injEq, Option.some.injEq] at this
      subst this
      rw [add_lit, Nat.add_assoc]
  · simp [D.opt] at h
theorem fieldAddr_res (h : RelM C K w B m) {s : TypeId} {f : Nat} {p : Nat × TypeId} (hf : fieldAt? C s f = some p) {v : Value} {x y : V S} (hv : RepV C.E K w v x)
    (hx : (semFA p.1 x).opt = some y) : VRes C K w B ((Instr.fieldAt s v f).run C.P w) y m := by
  obtain ⟨a, rfl, hr⟩ := fa_rep hv hx
  exact VRes.pur h (run_fieldAt hf a) hr
/-- A part that is taken out of cells. -/
theorem take_rep {t : TypeId} {cs : Array Value} {vs : List (V S)} {off : Nat} {y : V S} (hs : cs.size = vs.length)
    (hj : ∀ (j : Nat) (c : Value) (v : V S), cs[j]? = some c → vs[j]? = some v → RepV C.E K w c v) (h : take? C t vs off = some y) :
    ∃ v, (part t cs off).run C.P w = .ok v w ∧ RepV C.E K w v y := by
  unfold take? at h
  cases ha : isAgg? C t with
  | none => rw [ha] at h; cases h
  | some b =>
    rw [ha] at h
    simp only [Option.bind_some] at h
    have hra := run_isAgg (w := w) ha
    cases b with
    | true =>
      simp only [if_true] at h
      cases hn : sizeOf? C t with
      | none => rw [hn] at h; cases h
      | some n =>
        rw [hn] at h
        simp only [Option.bind_some] at h
        split at h
        · rename_i hle
          cases h
          refine ⟨.agg (cs.extract off (off + n)), by simp [part, hra, run_sizeOf hn], .agg _ _ (by simp [Array.size_extract]; omega) fun j c v hc hv => ?_⟩
          rw [Array.getElem?_extract] at hc
          split at hc
          · rename_i hj'
            rw [List.getElem?_take, List.getElem?_drop] at hv
            split at hv
            · exact hj _ c v hc hv
            · cases hv
          · cases hc
        · cases h
    | false =>
      simp only [Bool.false_eq_true, if_false] at h
      have hlt : off < cs.size := by rw [hs]; exact (List.getElem?_eq_some_iff.1 h).1
      exact ⟨cs[off], by simp [part, hra, hlt], hj off _ y (by simp [hlt]) h⟩
/-- The same out of memory. -/
theorem load_rep {t : TypeId} {b o off : Nat} {vs : List (V S)} {f : Nat → Value} {y : V S} (hc : ∀ j, j < vs.length → w.cell? ⟨b, o + j, none⟩ = some (f j))
    (hr : ∀ (j : Nat) (v : V S), vs[j]? = some v → RepV C.E K w (f j) v) (h : take? C t vs off = some y) :
    ∃ v, (Instr.loadAt t (.pointer (some ⟨b, o + off, none⟩))).run C.P w = .ok v w ∧ RepV C.E K w v y := by
  unfold take? at h
  cases ha : isAgg? C t with
  | none => rw [ha] at h; cases h
  | some ag =>
    rw [ha] at h
    simp only [Option.bind_some] at h
    have hra := run_isAgg (w := w) ha
    cases ag with
    | true =>
      simp only [if_true] at h
      cases hn : sizeOf? C t with
      | none => rw [hn] at h; cases h
      | some n =>
        rw [hn] at h
        simp only [Option.bind_some] at h
        split at h
        · rename_i hle
          cases h
          have hl := run_loadCells (P := C.P) w ⟨b, o + off, none⟩ n (fun j => f (off + j)) (fun j hj => by rw [add_lit, Nat.add_assoc]; exact hc _ (by omega))
          refine ⟨.agg ((List.range n).map fun j => f (off + j)).toArray, by simp [Instr.loadAt, Instr.sureAddr, loadVar, hra, run_sizeOf hn, hl], .agg _ _ (by simp; omega) fun j c v hcj hv => ?_⟩
          rw [List.getElem?_take, List.getElem?_drop] at hv
          split at hv
          · rename_i hjn
            simp [hjn] at hcj
            subst hcj
            exact hr _ v hv
          · cases hv
        · cases h
    | false =>
      simp only [Bool.false_eq_true, if_false] at h
      have hlt := (List.getElem?_eq_some_iff.1 h).1
      exact ⟨f off, by simp [Instr.loadAt, Instr.sureAddr, loadVar, hra, hc off hlt], hr off y h⟩
theorem box_cells (h : RelM C K w B m) {id : Nat} {cs : List (V S)} {fz : Bool} (hm : m[id]? = some (.box cs fz)) :
    K.gen id = 0 ∧ ∃ f : Nat → Value, (∀ j, j < cs.length → w.cell? ⟨K.ι id, 0 + j, none⟩ = some (f j)) ∧ ∀ (j : Nat) (v : V S), cs[j]? = some v → RepV C.E K w (f j) v := by
  obtain ⟨h0, hl, c, e, h1, h2, h3, h4, h5⟩ := h.ob id _ hm
  refine ⟨h0, fun j => c.getD j Go.undef, fun j hj => ?_, fun j v hv => ?_⟩
  · have hj' : j < c.size := h2 ▸ hj
    simp [World.cell?, h1, hj', Array.getD]
  · have hj' : j < c.size := by rw [h2]; exact (List.getElem?_eq_some_iff.1 hv).1
    have := h3 j c[j] v (by simp [hj']) hv
    simpa [Array.getD, hj'] using this
/-- The cells of an element of an own array. -/
theorem arr_cells (hE : EnvOK C.E) (h : RelM C K w B m) {id : Nat} {e : TypeId} {t : Ty} {l : List (den S t)} {g : Nat} {fz : Bool} (hm : m[id]? = some (.arr e t l g fz)) {i : Nat} {x : den S t} (hi : l[i]? = some x) :
    K.gen id = g ∧ K.esz id = tsize C.E t ∧ K.live id = true ∧ ∃ (c : Array Value) (cap : Nat), K.hv id = .slice (some ⟨K.ι id, 0, none⟩) l.length cap ∧ w.heap[K.ι id]? = some (.cells c e (0, 0)) ∧ c.size = cap * tsize C.E t ∧ l.length ≤ cap ∧ cap ≤ maxLen ∧ B ≤ K.ι id ∧
      (fz = false → K.σ (K.ι id) = 0) ∧ K.σ (K.ι id) ≤ l.length * tsize C.E t ∧
      (∀ (i : Nat) (x : den S t), l[i]? = some x → ∀ (j : Nat) (cl : Cell S), (cellsOf C.E t x)[j]? = some cl → ∃ v, c[i * tsize C.E t + j]? = some v ∧ Rep C.E K.σ w v cl.t cl.x) := by
  obtain ⟨h1, h2, h3⟩ := h.ob id _ hm
  rcases h3 with ⟨_, rfl, _⟩ | ⟨hl, c, cap, p1, p2, p3, p4, p5, p6, p7, p8, p9⟩
  · simp at hi
  · exact ⟨h1, h2, hl, c, cap, p1, p5, p4, p2, p3, p9, p8, p7, p6⟩
theorem elem_cells {σ : Nat → Nat} {c : Array Value} {t : Ty} {x : den S t} {i sz : Nat} (hσ : σ = K.σ)
    (h : ∀ (j : Nat) (cl : Cell S), (cellsOf C.E t x)[j]? = some cl → ∃ v, c[i * sz + j]? = some v ∧ Rep C.E σ w v cl.t cl.x) (b : Nat) (e : TypeId) (fr : Nat × Nat) (hb : w.heap[b]? = some (.cells c e fr)) :
    (∀ j, j < (elemCells C.E t x).length → w.cell? ⟨b, i * sz + j, none⟩ = some (c.getD (i * sz + j) Go.undef)) ∧
    ∀ (j : Nat) (v : V S), (elemCells C.E t x)[j]? = some v → RepV C.E K w (c.getD (i * sz + j) Go.undef) v := by
  subst hσ
  rw [elemCells_eq]
  refine ⟨fun j hj => ?_, fun j v hv => ?_⟩
  · simp at hj
    obtain ⟨u, q1, _⟩ := h j _ (List.getElem?_eq_getElem hj)
    have hlt := (Array.getElem?_eq_some_iff.1 q1).1
    simp [World.cell?, hb, hlt, Array.getD]
  · rw [List.getElem?_map] at hv
    cases hcl : (cellsOf C.E t x)[j]? with
    | none => rw [hcl] at hv; simp at hv
    | some cl =>
      rw [hcl] at hv
      simp only [Option.map_some, Option.some.injEq] at hv
      subst hv
      obtain ⟨u, q1, q2⟩ := h j cl hcl
      have hlt := (Array.getElem?_eq_some_iff.1 q1).1
      have : c.getD (i * sz + j) Go.undef = u := by
        rw [Array.getElem?_eq_getElem hlt] at q1
        simp only [Option.some.injEq] at q1
        simp [Array.getD, hlt, q1]
      rw [this]; exact .cell q2
theorem load_res (hE : EnvOK C.E) (h : RelM C K w B m) {t : TypeId} {v : Value} {x y : V S} {m' : Mem S} (hv : RepV C.E K w v x) (hx : (semLoad C m t x).opt = some (y, m')) :
    m' = m ∧ VRes C K w B ((Instr.loadAt t v).run C.P w) y m := by
  unfold semLoad at hx
  split at hx
  · rename_i id off
    split at hx
    · rename_i cs fz hm
      obtain ⟨u, hu, hx⟩ := opt_ofOpt_bind hx
      simp only [D.opt, Option.some.injEq, Prod.mk.injEq] at hx
      obtain ⟨rfl, rfl⟩ := hx
      obtain ⟨hg, f, hc, hr⟩ := box_cells h hm
      cases hv with
      | ptr _ _ _ hn hp hh =>
        rw [hh hg]
        obtain ⟨r, h1, h2⟩ := load_rep hc hr hu
        rw [Nat.zero_add] at h1
        exact ⟨rfl, VRes.pur h h1 h2⟩
    · simp [D.opt] at hx
  · rename_i cs
    obtain ⟨u, hu, hx⟩ := opt_ofOpt_bind hx
    simp only [D.opt, Option.some.injEq, Prod.mk.injEq] at hx
    obtain ⟨rfl, rfl⟩ := hx
    cases hv with
    | ro b off vs f hst hc hr =>
      obtain ⟨r, h1, h2⟩ := load_rep hc hr hu
      exact ⟨rfl, VRes.pur h h1 h2⟩
  · rename_i id g i off
    split at hx
    · rename_i e T l g' fz hm
      split at hx
      · rename_i hgg
        subst hgg
        simp only [D.opt] at hx
        cases hi : l[i]? with
        | none => rw [hi] at hx; simp at hx
        | some xx =>
          rw [hi] at hx
          simp only [Option.bind_some] at hx
          obtain ⟨u, hu, hx⟩ := opt_ofOpt_bind hx
          simp only [D.opt, Option.some.injEq, Prod.mk.injEq] at hx
          obtain ⟨rfl, rfl⟩ := hx
          obtain ⟨q1, q2, q3, c, cap, q4, q5, q6, q7, q8, q9, q10, q11, q12⟩ := arr_cells hE h hm hi
          obtain ⟨hc, hr⟩ := elem_cells (C := C) (K := K) (w := w) rfl (q12 i xx hi) (K.ι id) e (0, 0) q5
          cases hv with
          | eptr _ _ _ _ _ hn hg hp hh =>
            rw [hh q1, q2]
            obtain ⟨r, h1, h2⟩ := load_rep hc hr hu
            exact ⟨rfl, VRes.pur h h1 h2⟩
      · simp [D.opt] at hx
    · simp [D.opt] at hx
  · simp [D.opt] at hx
theorem field_res (h : RelM C K w B m) {s : TypeId} {f : Nat} {p : Nat × TypeId} (hf : fieldAt? C s f = some p) {v : Value} {x y : V S} (hv : RepV C.E K w v x)
    (hx : (semFld C p x).opt = some y) : VRes C K w B ((Instr.field s v f).run C.P w) y m := by
  obtain ⟨fs, fd, n, hu, hfd, hn, rfl⟩ := field_inv hf
  unfold semFld at hx
  split at hx
  · rw [D.opt_ofOpt] at hx
    cases hv with
    | agg cs vs hs hj =>
      obtain ⟨r, h1, h2⟩ := take_rep hs hj hx
      exact VRes.pur h (by simp [Instr.field, run_underlying hu, hfd, asAgg, h1]) h2
  · simp [D.opt] at hx
end
end Go.Lv
namespace Go.Lv
set_option linter.all false
open Go Go.RowKit
variable {S : Nat → Type}
theorem setCells_get (cs : List (V S)) : ∀ (vs : List (V S)) (off : Nat), off + vs.length ≤ cs.length → ∀ j : Nat, (setCells cs off vs)[j]? = if off ≤ j ∧ j < off + vs.length then vs[j - off]? else cs[j]? := by
  intro vs
  induction vs generalizing cs with
  | nil => intro off _ j; simp [setCells]; omega
  | cons v vs ih =>
    intro off hle j
    simp only [List.length_cons] at hle
    simp only [setCells]
    rw [ih (cs.set off v) (off + 1) (by simp; omega) j]
    by_cases h1 : off + 1 ≤ j ∧ j < off + 1 + vs.length
    · rw [if_pos h1, if_pos (by simp; omega)]
      have : j - off = (j - (off + 1)) + 1 := by omega
      rw [this, List.getElem?_cons_succ]
    · rw [if_neg h1]
      by_cases h2 : j = off
      · subst h2
        rw [List.getElem?_set_self (by omega), if_pos (by simp)]
        simp
      · rw [List.getElem?_set_ne (fun q => h2 q.symm), if_neg (by simp; omega)]
theorem setCells_len (cs vs : List (V S)) (off : Nat) : (setCells cs off vs).length = cs.length := by
  induction vs generalizing cs off with
  | nil => rfl
  | cons v vs ih => simp [setCells, ih]
theorem splice_get (c vs : List Value) (off : Nat) (h : off + vs.length ≤ c.length) (j : Nat) :
    (c.take off ++ vs ++ c.drop (off + vs.length))[j]? = if off ≤ j ∧ j < off + vs.length then vs[j - off]? else c[j]? := by
  have hl : (c.take off).length = off := by simp; omega
  by_cases h1 : j < off
  · rw [List.append_assoc, List.getElem?_append_left (by omega), if_neg (by omega), List.getElem?_take, if_pos h1]
  · by_cases h2 : j < off + vs.length
    · rw [List.append_assoc, List.getElem?_append_right (by omega), hl, List.getElem?_append_left (by omega), if_pos (by omega)]
    · rw [List.getElem?_append_right (by simp [hl]; omega), if_neg (by omega), List.getElem?_drop]
      simp only [List.length_append, hl]
      congr 1
      omega
section
variable {C : Ctx S} {K : Gh} {w : World} {B : Nat} {m : Mem S}
/-- The row that a store leaves. -/
def rowAfter (c : Array Value) (off : Nat) (vs : Array Value) : Array Value := (c.toList.take off ++ vs.toList ++ c.toList.drop (off + vs.toList.length)).toArray
theorem rowAfter_get (c : Array Value) (off : Nat) (vs : Array Value) (h : off + vs.size ≤ c.size) (j : Nat) :
    (rowAfter c off vs)[j]? = if off ≤ j ∧ j < off + vs.size then vs[j - off]? else c[j]? := by
  have := splice_get c.toList vs.toList off (by simpa using h) j
  simpa [rowAfter] using this
theorem rowAfter_size (c : Array Value) (off : Nat) (vs : Array Value) (h : off + vs.size ≤ c.size) : (rowAfter c off vs).size = c.size := by
  simp [rowAfter]; omega
theorem run_storeVar {t : TypeId} {b off : Nat} {c : Array Value} {e : TypeId} (v : Value) (hb : w.heap[b]? = some (.cells c e (0, 0))) (hs : sizeOf? C t = some v.cells.size)
    (hle : off + v.cells.size ≤ c.size) (h1 : ∀ u ∈ v.cells.toList, u.oneCell' = true) :
    (Instr.storeAt t (.pointer (some ⟨b, off, none⟩)) v).run C.P w = .ok () (w.setRow b (rowAfter c off v.cells)) := by
  have hst := run_storeCells_at C.P b off e v.cells.toList 0 c w hb (by simpa using hle) h1
  simp only [Nat.add_zero] at hst
  simp [Instr.storeAt, Instr.sureAddr, storeVar, run_sizeOf hs, hst, rowAfter]
theorem all_one {v : Value} {x : V S} (hv : RepV C.E K w v x) (h1 : x.cells.all V.one = true) :
    v.cells.size = x.cells.length ∧ (∀ (j : Nat) (c : Value) (y : V S), v.cells[j]? = some c → x.cells[j]? = some y → RepV C.E K w c y) ∧ ∀ u ∈ v.cells.toList, u.oneCell' = true := by
  have hd : x.defd = true := by
    cases x <;> first | rfl | (simp [V.cells, V.one] at h1)
  obtain ⟨a, b⟩ := hv.cells hd
  refine ⟨a, b, fun u hu => ?_⟩
  obtain ⟨j, hj, rfl⟩ := List.getElem_of_mem hu
  have hj' : j < x.cells.length := by rw [← a]; simpa using hj
  have := b j v.cells[j] x.cells[j] (by simp) (by simp [hj'])
  rw [List.all_eq_true] at h1
  exact this.oneCell (h1 _ (List.getElem_mem hj'))
theorem Ext.setRow (h : RelM C K w B m) {b : Nat} {c c' : Array Value} {e : TypeId} {fr : Nat × Nat} (hb : w.heap[b]? = some (.cells c e fr)) (hσ : K.σ b = 0) : Ext K w K (w.setRow b c') := by
  refine ⟨Nat.le_refl _, fun i _ => ⟨Nat.le_refl _, fun _ => ⟨rfl, rfl, rfl⟩⟩, fun _ => Nat.le_refl _, fun k o ho => ?_, fun k ob h0 he => ?_, .inr rfl⟩
  · have : k ≠ b := by intro q; subst q; omega
    exact World.cell?_of_block (setRow_other w b k c' this)
  · have : k ≠ b := by intro q; subst q; omega
    rw [setRow_other w b k c' this]; exact keeps.of he
theorem Below.setRow {b : Nat} (c' : Array Value) (hB : B ≤ b) : Below B w (w.setRow b c') :=
  ⟨rfl, rfl, rfl, by simp [World.setRow], fun k hk => setRow_other w b k c' (by omega)⟩
theorem size_setRow (b : Nat) (c' : Array Value) : (w.setRow b c').heap.size = w.heap.size := by simp [World.setRow]
theorem store_box (h : RelM C K w B m) {t : TypeId} {id off : Nat} {cs : List (V S)} (hm : m[id]? = some (.box cs false)) {a v : Value} {y : V S} (ha : RepV C.E K w a (.ptr id off)) (hv : RepV C.E K w v y)
    (h1 : y.cells.all V.one = true) (hs : some y.cells.length = sizeOf? C t) (hle : off + y.cells.length ≤ cs.length) :
    ∃ w', (Instr.storeAt t a v).run C.P w = .ok () w' ∧ Ext K w K w' ∧ Below B w w' ∧ RelM C K w' B (m.set id (.box (setCells cs off y.cells) false)) := by
  obtain ⟨g0, hl, c, e, p1, p2, p3, p4, p5⟩ := h.ob id _ hm
  have hin : id < K.n := by rw [h.n]; exact (List.getElem?_eq_some_iff.1 hm).1
  obtain ⟨a1, a2, a3⟩ := all_one hv h1
  cases ha with
  | ptr _ _ _ hn hp hh =>
    rw [hh g0]
    have hle' : off + v.cells.size ≤ c.size := by rw [a1, p2]; exact hle
    have hrun := run_storeVar (C := C) (t := t) v p1 (by rw [← hs, a1]) hle' a3
    have hx : Ext K w K (w.setRow (K.ι id) (rowAfter c off v.cells)) := Ext.setRow h p1 (p4 rfl).1
    refine ⟨_, hrun, hx, Below.setRow _ (p4 rfl).2, ?_⟩
    refine h.set hin hx rfl (fun j _ _ => ⟨rfl, rfl, rfl, rfl, rfl⟩) (fun b => .inl rfl) (fun k _ hk => setRow_other w _ k _ (hk hl)) (by rw [size_setRow]; exact Nat.le_refl _) (fun _ => .inl ⟨hl, rfl⟩) (fun b hb => h.new b (by rw [size_setRow] at hb; exact hb)) ?_
    refine ⟨g0, hl, rowAfter c off v.cells, e, setRow_heap w _ c _ e _ p1, by rw [rowAfter_size _ _ _ hle', setCells_len, p2], fun j u z hu hz => ?_, p4, fun q => (by cases q)⟩
    rw [rowAfter_get _ _ _ hle'] at hu
    rw [setCells_get _ _ _ hle] at hz
    rw [a1] at hu
    by_cases q : off ≤ j ∧ j < off + y.cells.length
    · rw [if_pos q] at hu hz
      exact (a2 _ u z hu hz).mono hx
    · rw [if_neg q] at hu hz
      exact (p3 j u z hu hz).mono hx
theorem Same.ext {K K' : Gh} (h : Same K K') (hσ : ∀ b, K.σ b ≤ K'.σ b) : Ext K w K' w :=
  ⟨Nat.le_of_eq h.n.symm, fun i _ => ⟨by rw [h.gen]; exact Nat.le_refl _, fun _ => ⟨by rw [h.ι], by rw [h.hv], by rw [h.esz]⟩⟩, hσ, fun _ _ _ => rfl, fun _ _ _ q => keeps.of q, .inr h.σ0⟩
/-- A store into an element of an own array. -/
theorem store_arr (hE : EnvOK C.E) (h : RelM C K w B m) {t : TypeId} {id g i off : Nat} {e : TypeId} {T : Ty} {l : List (den S T)} (hm : m[id]? = some (.arr e T l g false)) {x y' : den S T} (hi : l[i]? = some x)
    {a v : Value} {y : V S} (ha : RepV C.E K w a (.eptr id g i off)) (hv : RepV C.E K w v y) (hid : y.owns.contains id = false)
    (h1 : y.cells.all V.one = true) (hs : some y.cells.length = sizeOf? C t) (hle : off + y.cells.length ≤ (elemCells C.E T x).length)
    (hy : ∀ (j : Nat) (z : V S) (cl : Cell S), (setCells (elemCells C.E T x) off y.cells)[j]? = some z → (cellsOf C.E T y')[j]? = some cl → decLeaf m cl.t z = some cl.x) :
    ∃ K' w', (Instr.storeAt t a v).run C.P w = .ok () w' ∧ Ext K w K' w' ∧ Below B w w' ∧ RelM C K' w' B ((mark m y.owns).set id (.arr e T (l.set i y') g false)) := by
  obtain ⟨q1, q2, q3, c, cap, q4, q5, q6, q7, q8, q9, q10, q11, q12⟩ := arr_cells hE h hm hi
  have hin : id < K.n := by rw [h.n]; exact (List.getElem?_eq_some_iff.1 hm).1
  have hil : i < l.length := (List.getElem?_eq_some_iff.1 hi).1
  obtain ⟨a1, a2, a3⟩ := all_one hv h1
  have hel : (elemCells C.E T x).length = tsize C.E T := by rw [elemCells_eq, List.length_map, cellsOf_len hE]
  have hrow : i * tsize C.E T + tsize C.E T ≤ c.size := by
    rw [q6, ← Nat.succ_mul]; exact Nat.mul_le_mul_right _ (by omega)
  have hle' : i * tsize C.E T + off + v.cells.size ≤ c.size := by rw [a1]; omega
  have haddr : a = .pointer (some ⟨K.ι id, i * tsize C.E T + off, none⟩) := by
    cases ha with | eptr _ _ _ _ _ hn hg hp hh => rw [hh q1, q2]
  subst haddr
  have hrun := run_storeVar (C := C) (t := t) v q5 (by rw [← hs, a1]) hle' a3
  obtain ⟨K1, x1, s1, r1, f1⟩ := freeze h y.owns
  have hσ0 : K.σ (K.ι id) = 0 := q10 rfl
  -- the store's own block stays unstable
  have hm1 : (mark m y.owns)[id]? = some (.arr e T l g false) := by
    have : ∀ (ids : List Nat) (m : Mem S), m[id]? = some (.arr e T l g false) → ids.contains id = false → (mark m ids)[id]? = some (.arr e T l g false) := by
      intro ids
      induction ids with
      | nil => intro m h _; exact h
      | cons k ids ih =>
        intro m h hk
        simp only [List.contains_cons, Bool.or_eq_false_iff] at hk
        refine ih _ ?_ hk.2
        unfold mark1
        split
        · rw [List.getElem?_set_ne (by intro q; subst q; simp at hk)]; exact h
        · exact h
    exact this y.owns m hm hid
  obtain ⟨_, _, b3, c', cap', b4, b5, b6, b7, b8, b9, b10, b11, b12⟩ := arr_cells hE r1 hm1 hi
  have hc : c' = c := by rw [s1.ι, q5] at b5; cases b5; rfl
  subst hc
  have hx : Ext K1 w K1 (w.setRow (K.ι id) (rowAfter c' (i * tsize C.E T + off) v.cells)) := by
    have := Ext.setRow (c' := rowAfter c' (i * tsize C.E T + off) v.cells) r1 b5 (b10 rfl)
    rwa [s1.ι] at this
  refine ⟨K1, _, hrun, x1.trans hx, Below.setRow _ q9, ?_⟩
  have hin1 : id < K1.n := by rw [s1.n]; exact hin
  refine r1.set hin1 hx rfl (fun j _ _ => ⟨rfl, rfl, rfl, rfl, rfl⟩) (fun b => .inl rfl) (fun k _ hk => setRow_other w _ k _ (by rw [← s1.ι]; exact hk b3)) (by rw [size_setRow]; exact Nat.le_refl _) (fun _ => .inl ⟨b3, rfl⟩) (fun b hb => r1.new b (by rw [size_setRow] at hb; exact hb)) ?_
  refine ⟨by rw [s1.gen]; exact q1, by rw [s1.esz]; exact q2, .inr ⟨b3, rowAfter c' (i * tsize C.E T + off) v.cells, cap', ?_, ?_, b8, ?_, ?_, ?_, ?_, fun _ => b10 rfl, b9⟩⟩
  · rw [b4]; simp
  · simpa using b7
  · rw [rowAfter_size _ _ _ hle']; exact b6
  · rw [s1.ι]; exact setRow_heap w _ c' _ e _ q5
  · intro i' x' hi' j cl hcl
    have hjt : j < tsize C.E T := by rw [← cellsOf_len hE T x']; exact (List.getElem?_eq_some_iff.1 hcl).1
    rw [rowAfter_get _ _ _ hle', a1]
    by_cases e1 : i' = i
    · subst e1
      rw [List.getElem?_set_self hil] at hi'
      cases hi'
      have hz : j < (setCells (elemCells C.E T x) off y.cells).length := by rw [setCells_len, hel]; exact hjt
      obtain ⟨zz, hzz⟩ : ∃ zz, (setCells (elemCells C.E T x) off y.cells)[j]? = some zz := ⟨_, List.getElem?_eq_getElem hz⟩
      have hdec := hy j zz cl hzz hcl
      have hget := setCells_get (elemCells C.E T x) y.cells off hle j
      rw [hzz] at hget
      by_cases q : i' * tsize C.E T + off ≤ i' * tsize C.E T + j ∧ i' * tsize C.E T + j < i' * tsize C.E T + off + y.cells.length
      · rw [if_pos q]
        rw [if_pos (by omega)] at hget
        have hk : i' * tsize C.E T + j - (i' * tsize C.E T + off) = j - off := by omega
        have hjo : j - off < y.cells.length := by omega
        have hjv : j - off < v.cells.size := by rw [a1]; exact hjo
        refine ⟨v.cells[j - off], by rw [hk]; simp [hjv], ?_⟩
        have hrep := a2 (j - off) v.cells[j - off] zz (by simp [hjv]) hget.symm
        have hr1 := hrep.mono x1
        have hlike := mark_like m y.owns
        refine (decLeaf_rep r1 hr1 (t := cl.t) (y := cl.x) ?_ ?_).mono hx.σ hx.cell
        · -- reading does not hang on the marks
          rw [← hdec]
          exact decLeaf_like hlike _ _
        · intro id' g' hq
          intro id'' hid''
          simp only [List.mem_singleton] at hid''
          subst hid''
          refine f1 _ ?_
          have hmem : zz ∈ y.cells := List.mem_of_getElem? hget.symm
          rw [hq] at hmem
          cases y <;> simp only [V.cells] at hmem
          case agg cs => simp only [V.owns, List.mem_filterMap]; exact ⟨_, hmem, rfl⟩
          case own a b => simp only [List.mem_singleton, V.own.injEq] at hmem; simp [V.owns, hmem.1]
          all_goals simp at hmem
      · rw [if_neg q]
        rw [if_neg (by omega)] at hget
        have hz2 := hget.symm
        rw [elemCells_eq, List.getElem?_map] at hz2
        cases hcx : (cellsOf C.E T x)[j]? with
        | none => rw [hcx] at hz2; simp at hz2
        | some cx =>
          rw [hcx] at hz2
          simp only [Option.map_some, Option.some.injEq] at hz2
          rw [← hz2] at hdec
          simp only [decLeaf] at hdec
          split at hdec
          · rename_i et
            obtain ⟨u, u1, u2⟩ := b12 i' x hi j cx hcx
            refine ⟨u, u1, ?_⟩
            obtain ⟨ct, cxx⟩ := cl
            obtain ⟨ct', cxx'⟩ := cx
            simp only at et
            subst et
            simp only [Option.some.injEq] at hdec
            subst hdec
            exact u2.mono hx.σ hx.cell
          · cases hdec
    · rw [List.getElem?_set_ne (fun q => e1 q.symm)] at hi'
      obtain ⟨u, u1, u2⟩ := b12 i' x' hi' j cl hcl
      have hoff : ¬ (i * tsize C.E T + off ≤ i' * tsize C.E T + j ∧ i' * tsize C.E T + j < i * tsize C.E T + off + y.cells.length) := by
        rintro ⟨r1, r2⟩
        rcases Nat.lt_or_gt_of_ne e1 with q | q
        · have : (i' + 1) * tsize C.E T ≤ i * tsize C.E T := Nat.mul_le_mul_right _ q
          rw [Nat.succ_mul] at this; omega
        · have : (i + 1) * tsize C.E T ≤ i' * tsize C.E T := Nat.mul_le_mul_right _ q
          rw [Nat.succ_mul] at this; omega
      rw [if_neg hoff]
      exact ⟨u, u1, u2.mono hx.σ hx.cell⟩
  · rw [b10 rfl]; exact Nat.zero_le _
end
end Go.Lv
namespace Go.Lv
set_option linter.all false
open Go Go.RowKit
variable {S : Nat → Type}
/-- What is asked of the types' table. -/
def TyOK (C : Ctx S) : Prop := ∀ e T, C.ty e = some T → ∃ i z, C.P.info? e = some i ∧ i.size = tsize C.E T ∧ i.zero = some z ∧ z.cells.size = i.size ∧ 0 < i.size ∧ i.bytes ≤ 1024
section
variable {C : Ctx S} {K : Gh} {w : World} {B : Nat} {m : Mem S}
theorem TyOK.size (h : TyOK C) {e : TypeId} {T : Ty} (ht : C.ty e = some T) : sizeOf? C e = some (tsize C.E T) := by
  obtain ⟨i, z, h1, h2, _⟩ := h e T ht
  simp [sizeOf?, h1, h2]
theorem ieq_eq {a b : Int} (h : ieq a b = true) : a = b := by simpa [ieq] using h
/-- The bounds as they are run. -/
theorem bounds_run {lo hi mx : Option Value} {lo' hi' mx' : Option (V S)} {len cap : Nat} {f : Bool} {p : Int × Int × Option Int × Bool} (hcap : len ≤ cap)
    (h1 : ∀ x, lo' = some x → ∃ v, lo = some v ∧ RepV C.E K w v x) (h1' : lo' = none → lo = none)
    (h2 : ∀ x, hi' = some x → ∃ v, hi = some v ∧ RepV C.E K w v x) (h2' : hi' = none → hi = none)
    (h3 : ∀ x, mx' = some x → ∃ v, mx = some v ∧ RepV C.E K w v x) (h3' : mx' = none → mx = none)
    (hb : bounds len f lo' hi' mx' = some p) (hok : okBounds len p.1 p.2.1 p.2.2.1 = true) :
    0 ≤ p.1 ∧ p.1 ≤ p.2.1 ∧ p.2.1 ≤ len ∧ ∃ c : Nat, (Instr.sliceBounds true len cap lo hi mx).run C.P w = .ok (p.1.toNat, p.2.1.toNat, c) w ∧ p.2.1 ≤ c ∧ (p.2.2.2 = true → ((c : Int) = p.2.1 ∨ (f = true ∧ c = cap ∧ p.2.1 = len))) := by
  simp only [okBounds, Bool.and_eq_true, decide_eq_true_eq] at hok
  obtain ⟨⟨o1, o2, o3⟩, o4⟩ := hok
  refine ⟨o1, o2, o3, ?_⟩
  have mk : ∀ {k : IntKind} {n : Int} {y : Nat} {code : BoundsCode}, 0 ≤ n → n ≤ y → (Instr.sliceBound (.int k n) y code).run C.P w = .ok n.toNat w := by
    intro k n y code a b; exact run_sliceBound w k n y code a b
  unfold bounds at hb
  split at hb
  · cases hb
    rw [h1' rfl, h2' rfl, h3' rfl]
    exact ⟨cap, by simp [Instr.sliceBounds], by simp only at *; omega, fun q => .inr ⟨q, rfl, rfl⟩⟩
  · rename_i a _ _
    cases hb
    obtain ⟨v, e, r⟩ := h1 _ rfl
    rw [e, h2' rfl, h3' rfl, int_of r]
    simp only at o1 o2 o3
    exact ⟨cap, by simp [Instr.sliceBounds, mk o1 o2], by simp only; omega, fun q => .inr ⟨q, rfl, rfl⟩⟩
  · rename_i b _ _
    cases hb
    obtain ⟨v, e, r⟩ := h2 _ rfl
    rw [h1' rfl, e, h3' rfl, int_of r]
    simp only at o1 o2 o3
    exact ⟨cap, by simp [Instr.sliceBounds, mk o2 (by omega : _ ≤ (cap : Int))], by simp only; omega, fun q => by cases q⟩
  · rename_i _ _ _ a b
    cases hb
    obtain ⟨v, e, r⟩ := h1 _ rfl
    obtain ⟨v', e', r'⟩ := h2 _ rfl
    rw [e, e', h3' rfl, int_of r, int_of r']
    simp only at o1 o2 o3
    have hbn := mk (k := .i64) (y := cap) (code := .sliceAcap) (Int.le_trans o1 o2) (by omega)
    have han := mk (k := .i64) (n := a) (y := Int.toNat b) (code := .sliceB) o1 (by rw [Int.toNat_of_nonneg (Int.le_trans o1 o2)]; exact o2)
    exact ⟨cap, by simp [Instr.sliceBounds, hbn, han], by simp only; omega, fun q => by cases q⟩
  · rename_i _ _ _ b c
    cases hb
    obtain ⟨v, e, r⟩ := h2 _ rfl
    obtain ⟨v', e', r'⟩ := h3 _ rfl
    rw [h1' rfl, e, e', int_of r, int_of r']
    have e4 : b = c := ieq_eq o4
    subst e4
    simp only at o1 o2 o3
    have hcn := mk (k := .i64) (y := cap) (code := .slice3Acap) o2 (by omega)
    have hbn := mk (k := .i64) (n := b) (y := Int.toNat b) (code := .slice3B) o2 (by rw [Int.toNat_of_nonneg o2]; exact Int.le_refl _)
    exact ⟨Int.toNat b, by simp [Instr.sliceBounds, hbn, hcn], by rw [Int.toNat_of_nonneg o2]; exact Int.le_refl _, fun _ => .inl (Int.toNat_of_nonneg o2)⟩
  · rename_i _ _ _ a b c
    cases hb
    obtain ⟨v, e, r⟩ := h1 _ rfl
    obtain ⟨v', e', r'⟩ := h2 _ rfl
    obtain ⟨v'', e'', r''⟩ := h3 _ rfl
    rw [e, e', e'', int_of r, int_of r', int_of r'']
    have e4 : b = c := ieq_eq o4
    subst e4
    simp only at o1 o2 o3
    have h0 : @LE.le Int _ 0 b := Int.le_trans o1 o2
    have hcn := mk (k := .i64) (y := cap) (code := .slice3Acap) h0 (by omega)
    have hbn := mk (k := .i64) (n := b) (y := Int.toNat b) (code := .slice3B) h0 (by rw [Int.toNat_of_nonneg h0]; exact Int.le_refl _)
    have han := mk (k := .i64) (n := a) (y := Int.toNat b) (code := .slice3C) o1 (by rw [Int.toNat_of_nonneg h0]; exact o2)
    exact ⟨Int.toNat b, by simp [Instr.sliceBounds, hbn, hcn, han], by rw [Int.toNat_of_nonneg h0]; exact Int.le_refl _, fun _ => .inl (Int.toNat_of_nonneg h0)⟩
  · cases hb
/-- A piece of a list. -/
theorem piece_rep {σ : Nat → Nat} {t : Ty} {l : List (den S t)} {ad : Option Addr} {len cap : Nat} (h : Rep C.E σ w (.slice ad len cap) (.slice t) l) (a b c : Nat) (h1 : a ≤ b) (h2 : b ≤ l.length) (h3 : b ≤ c) :
    Rep C.E σ w (.slice (if c = a then ad else ad.map (·.add (a * tsize C.E t))) (b - a) (c - a)) (.slice t) ((l.take b).drop a) := by
  have hl : ((l.take b).drop a).length = b - a := by simp; omega
  by_cases hab : a = b
  · subst hab
    have : (l.take a).drop a = [] := List.eq_nil_of_length_eq_zero (by omega)
    rw [this, Nat.sub_self]
    exact .nil t _ _
  · have hlt : a < b := by omega
    rw [if_neg (by omega)]
    cases h with
    | nil => simp at h2; omega
    | slice _ _ bk off _ vs hcap hst hc hr =>
      simp only [Option.map_some, add_lit]
      rw [← hl]
      have hm : (b - a) * tsize C.E t + a * tsize C.E t ≤ l.length * tsize C.E t := by
        rw [← Nat.add_mul]; exact Nat.mul_le_mul_right _ (by omega)
      refine .slice t _ bk (off + a * tsize C.E t) (c - a) (fun j => vs (a * tsize C.E t + j)) (by omega) (by rw [hl]; omega) (fun j hj => ?_) (fun i x hi j cl hj => ?_)
      · rw [hl] at hj
        have := hc (a * tsize C.E t + j) (by omega)
        rwa [← Nat.add_assoc] at this
      · rw [List.getElem?_drop, List.getElem?_take] at hi
        split at hi
        · have := hr (a + i) x hi j cl hj
          rwa [Nat.add_mul, Nat.add_assoc] at this
        · cases hi
theorem rep_slice {σ : Nat → Nat} {v : Value} {t : Ty} {l : List (den S t)} (h : Rep C.E σ w v (.slice t) l) : ∃ ad cap, v = .slice ad l.length cap ∧ l.length ≤ cap := by
  cases h with
  | nil t a cap => exact ⟨a, cap, rfl, Nat.zero_le _⟩
  | slice _ _ b off cap vs hcap => exact ⟨_, cap, rfl, hcap⟩
theorem slice_res (hT : TyOK C) (h : RelM C K w B m) {st e : TypeId} {T : Ty} (hu : C.P.underlying st = some (.slice e)) (hty : C.ty e = some T) {v : Value} {x : V S} {lo hi mx : Option Value} {lo' hi' mx' : Option (V S)} {y : V S} {m' : Mem S}
    (hv : RepV C.E K w v x) (hx : (semSl m T x lo' hi' mx').opt = some (y, m'))
    (h1 : ∀ x, lo' = some x → ∃ v, lo = some v ∧ RepV C.E K w v x) (h1' : lo' = none → lo = none)
    (h2 : ∀ x, hi' = some x → ∃ v, hi = some v ∧ RepV C.E K w v x) (h2' : hi' = none → hi = none)
    (h3 : ∀ x, mx' = some x → ∃ v, mx = some v ∧ RepV C.E K w v x) (h3' : mx' = none → mx = none) :
    VRes C K w B ((Instr.sliceAt st v lo hi mx).run C.P w) y m' := by
  have key : ∀ {K' : Gh} {l : List (den S T)} {f : Bool} {ad : Option Addr} {len cap : Nat}, Rep C.E K'.σ w (.slice ad len cap) (.slice T) l → len = l.length → l.length ≤ cap → (f = true → cap = l.length) →
      (semSlice T l f lo' hi' mx').opt = some y → ∃ u, (Instr.sliceAt st (.slice ad len cap) lo hi mx).run C.P w = .ok u w ∧ RepV C.E K' w u y := by
    intro K' l f ad len cap hr hlen hcap hf hy
    subst hlen
    unfold semSlice at hy
    obtain ⟨p, hp, hy⟩ := opt_ofOpt_bind hy
    simp only [D.opt] at hy
    by_cases hok : okBounds (l.length : Int) p.1 p.2.1 p.2.2.1 = true
    · rw [hok] at hy
      simp only [cond_true, Option.some.injEq] at hy
      obtain ⟨b1, b2, b3, c, b4, b5, b6⟩ := bounds_run (C := C) (K := K) (w := w) (cap := cap) hcap h1 h1' h2 h2' h3 h3' hp hok
      have hpc := piece_rep hr p.1.toNat p.2.1.toNat c (by omega) (by omega) (by omega)
      have hrun : (Instr.sliceAt st (.slice ad l.length cap) lo hi mx).run C.P w = .ok (.slice (if c = p.1.toNat then ad else ad.map (·.add (p.1.toNat * tsize C.E T))) (p.2.1.toNat - p.1.toNat) (c - p.1.toNat)) w := by
        simp [Instr.sliceAt, run_underlying hu, Instr.slice, b4, run_sizeOf (hT.size hty)]
      refine ⟨_, hrun, ?_⟩
      by_cases hfull : p.2.2.2 = true
      · rw [if_pos hfull] at hy
        subst hy
        have hlen : ((l.take p.2.1.toNat).drop p.1.toNat).length = p.2.1.toNat - p.1.toNat := by simp; omega
        have hc : c - p.1.toNat = p.2.1.toNat - p.1.toNat := by
          rcases b6 hfull with q | ⟨q1, q2, q3⟩
          · omega
          · have := hf q1; omega
        rw [hc, ← hlen] at hpc ⊢
        exact .full hpc
      · rw [if_neg hfull] at hy
        subst hy
        exact .cell hpc
    · simp only [Bool.not_eq_true] at hok
      rw [hok] at hy
      simp at hy
  unfold semSl at hx
  split at hx
  · rename_i t l
    split at hx
    · rename_i et
      subst et
      obtain ⟨u, hu', e⟩ := opt_bind_ret hx
      cases e
      cases hv with
      | cell hr =>
        obtain ⟨ad, cap, rfl, hcap⟩ := rep_slice hr
        obtain ⟨r, q1, q2⟩ := key hr rfl hcap (fun q => by cases q) hu'
        exact VRes.pur h q1 q2
    · simp [D.opt] at hx
  · rename_i t l
    split at hx
    · rename_i et
      subst et
      obtain ⟨u, hu', e⟩ := opt_bind_ret hx
      cases e
      cases hv with
      | full hr =>
        obtain ⟨r, q1, q2⟩ := key hr rfl (Nat.le_refl _) (fun _ => rfl) hu'
        exact VRes.pur h q1 q2
    · simp [D.opt] at hx
  · rename_i id g
    split at hx
    · rename_i e' t l g' fz hm
      split at hx
      · rename_i hgt
        obtain ⟨hg, et⟩ := hgt
        subst hg et
        obtain ⟨u, hu', e⟩ := opt_bind_ret hx
        cases e
        obtain ⟨K1, x1, s1, r1, f1⟩ := freeze h [id]
        have hr : Rep C.E K1.σ w v (.slice t) l := by
          have hm1 : decLeaf (mark m [id]) (.slice t) (.own id g) = some l := by
            rw [decLeaf_like (mark_like m [id])]
            simp [decLeaf, hm]; rfl
          exact decLeaf_rep r1 (hv.mono x1) hm1 (fun id' g' q => by cases q; exact f1)
        obtain ⟨ad, cap, rfl, hcap⟩ := rep_slice hr
        obtain ⟨r, q1, q2⟩ := key hr rfl hcap (fun q => by cases q) hu'
        exact ⟨K1, w, r, q1, x1, Below.refl B w, r1, q2⟩
      · simp [D.opt] at hx
    · simp [D.opt] at hx
  · simp [D.opt] at hx
theorem geti_some {α : Type} {l : List α} {i : Int} {x : α} (h : geti l i = some x) : 0 ≤ i ∧ i < l.length ∧ l[i.toNat]? = some x := by
  unfold geti at h
  split at h
  · rename_i h0
    have := (List.getElem?_eq_some_iff.1 h).1
    exact ⟨h0, by omega, h⟩
  · cases h
theorem elem_ro {σ : Nat → Nat} (hσ : σ = K.σ) (hE : EnvOK C.E) {v : Value} {T : Ty} {l : List (den S T)} {i : Nat} {x : den S T} (h : Rep C.E σ w v (.slice T) l) (hi : l[i]? = some x) :
    ∃ b off cap, v = .slice (some ⟨b, off, none⟩) l.length cap ∧ RepV C.E K w (.pointer (some ⟨b, off + i * tsize C.E T, none⟩)) (.ro (elemCells C.E T x)) := by
  subst hσ
  cases h with
  | nil => simp at hi
  | slice _ _ b off cap vs hcap hst hc hr =>
    have hil := (List.getElem?_eq_some_iff.1 hi).1
    have hlen : (elemCells C.E T x).length = tsize C.E T := by rw [elemCells_eq, List.length_map, cellsOf_len hE]
    have hm : i * tsize C.E T + tsize C.E T ≤ l.length * tsize C.E T := by rw [← Nat.succ_mul]; exact Nat.mul_le_mul_right _ hil
    refine ⟨b, off, cap, rfl, .ro b _ _ (fun j => vs (i * tsize C.E T + j)) (by rw [hlen]; omega) (fun j hj => ?_) (fun j u hu => ?_)⟩
    · rw [hlen] at hj
      have := hc (i * tsize C.E T + j) (by omega)
      rwa [← Nat.add_assoc] at this
    · rw [elemCells_eq, List.getElem?_map] at hu
      cases hcl : (cellsOf C.E T x)[j]? with
      | none => rw [hcl] at hu; simp at hu
      | some cl =>
        rw [hcl] at hu
        simp only [Option.map_some, Option.some.injEq] at hu
        subst hu
        exact .cell (hr i x hi j cl hcl)
theorem run_indexAt {st e : TypeId} {sz : Nat} (hu : C.P.underlying st = some (.slice e)) (hs : sizeOf? C e = some sz) (b off len cap : Nat) (i : Int) (k : IntKind) (h0 : 0 ≤ i) (h1 : i < len) :
    (Instr.indexAt st (.slice (some ⟨b, off, none⟩) len cap) (.int k i)).run C.P w = .ok (.pointer (some ⟨b, off + i.toNat * sz, none⟩)) w := by
  simp [Instr.indexAt, run_underlying hu, asIntOf, h0, h1, run_sizeOf hs, add_lit]
theorem elemAt_res (hE : EnvOK C.E) (hT : TyOK C) (h : RelM C K w B m) {st e : TypeId} {T : Ty} (hu : C.P.underlying st = some (.slice e)) (hty : C.ty e = some T) {v : Value} {x y : V S} {i : Int} {m' : Mem S}
    (hv : RepV C.E K w v x) (hx : (elemAt C m T x i).opt = some (y, m')) : m' = m ∧ VRes C K w B ((Instr.indexAt st v (.int .i64 i)).run C.P w) y m := by
  have hs := hT.size hty
  unfold elemAt at hx
  split at hx
  · rename_i t l
    split at hx
    · rename_i et
      subst et
      simp only [D.opt] at hx
      cases hgi : geti l i with
      | none => rw [hgi] at hx; simp at hx
      | some z =>
        rw [hgi] at hx
        simp only [Option.bind_some, D.opt, Option.some.injEq, Prod.mk.injEq] at hx
        obtain ⟨rfl, rfl⟩ := hx
        obtain ⟨h0, h1, h2⟩ := geti_some hgi
        cases hv with
        | cell hr =>
          obtain ⟨b, off, cap, rfl, q⟩ := elem_ro rfl hE hr h2
          exact ⟨rfl, VRes.pur h (run_indexAt hu hs b off _ cap i .i64 h0 h1) q⟩
    · simp [D.opt] at hx
  · rename_i t l
    split at hx
    · rename_i et
      subst et
      simp only [D.opt] at hx
      cases hgi : geti l i with
      | none => rw [hgi] at hx; simp at hx
      | some z =>
        rw [hgi] at hx
        simp only [Option.bind_some, D.opt, Option.some.injEq, Prod.mk.injEq] at hx
        obtain ⟨rfl, rfl⟩ := hx
        obtain ⟨h0, h1, h2⟩ := geti_some hgi
        cases hv with
        | full hr =>
          obtain ⟨b, off, cap, e, q⟩ := elem_ro rfl hE hr h2
          simp only [Value.slice.injEq] at e
          obtain ⟨rfl, _, rfl⟩ := e
          exact ⟨rfl, VRes.pur h (run_indexAt hu hs b off _ _ i .i64 h0 h1) q⟩
    · simp [D.opt] at hx
  · rename_i id g
    split at hx
    · rename_i e' t l g' fz hm
      split at hx
      · rename_i et
        subst et
        split at hx
        · rename_i eg
          subst eg
          simp only [D.opt] at hx
          by_cases hin : 0 ≤ i ∧ i < (l.length : Int)
          · simp only [hin, and_self, decide_true, cond_true, Option.some.injEq, Prod.mk.injEq] at hx
            obtain ⟨rfl, rfl⟩ := hx
            have hlt : i.toNat < l.length := by omega
            obtain ⟨q1, q2, q3, c, cap, q4, q5, q6, q7, q8, q9, q10, q11, q12⟩ := arr_cells hE h hm (List.getElem?_eq_getElem hlt)
            cases hv with
            | own _ _ _ hn hg hp hh =>
              rw [hh q1, q4]
              refine ⟨rfl, VRes.pur h (run_indexAt hu hs (K.ι id) 0 _ cap i .i64 hin.1 hin.2) (.eptr id g _ 0 _ hn hg ⟨_, rfl⟩ fun _ => by rw [q2]; simp)⟩
          · simp [hin] at hx
        · simp [D.opt] at hx
      · simp [D.opt] at hx
    · simp [D.opt] at hx
  · simp [D.opt] at hx
end
end Go.Lv
