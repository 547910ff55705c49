import Derived.Calls
import Derived.KernelRfl
import Derived.Laws.AppendOwn
namespace Go.Lv
set_option linter.all false
open Go

/-- The types of what is told: leaves, lists, named structs by number. -/
inductive Ty where
  | bool | int (k : IntKind) | str | err | fn | slice (t : Ty) | st (i : Nat)
  deriving DecidableEq

def den (S : Nat → Type) : Ty → Type
  | .bool => Bool
  | .int _ => Int
  | .str => List UInt8
  | .err => Bool
  | .fn => Nat
  | .slice t => List (den S t)
  | .st i => S i

structure Cell (S : Nat → Type) where
  t : Ty
  x : den S t

def Cell.as {S : Nat → Type} (c : Cell S) (t : Ty) : Option (den S t) := if h : c.t = t then some (h ▸ c.x) else none

inductive V (S : Nat → Type) : Type where
  | cell (t : Ty) (x : den S t)
  | full (t : Ty) (l : List (den S t))
  | nilS
  | agg (cs : List (V S))
  | ptr (id off : Nat)
  | own (id gen : Nat)
  | eptr (id gen : Nat) (i off : Nat)
  | ro (cs : List (V S))
  | clo (f : FuncId) (first caps : List (V S))
  | tup (vs : List (V S))
  | cmap (es : List (Int × V S))
  | mapr (id : Nat)
  | ifc (t : TypeId)
  | undef

inductive Ob (S : Nat → Type) : Type where
  | box (cs : List (V S)) (fz : Bool)
  | arr (e : TypeId) (t : Ty) (l : List (den S t)) (gen : Nat) (fz : Bool)
  | map (kt vt : Ty) (l : List (den S kt × den S vt))

abbrev Mem (S : Nat → Type) := List (Ob S)

/-- A computation that asks for truths and for what calls tell. -/
inductive D (α : Type) : Type 1 where
  | ret (a : α)
  | fail
  | split (b : Bool) (x y : D α)
  | call {R : Type} (o : Option R) (k : R → D α)

namespace D
def bind {α β : Type} : D α → (α → D β) → D β
  | .ret a, f => f a
  | .fail, _ => .fail
  | .split b x y, f => .split b (x.bind f) (y.bind f)
  | .call o k, f => .call o fun r => (k r).bind f
def opt {α : Type} : D α → Option α
  | .ret a => some a
  | .fail => none
  | .split b x y => bif b then x.opt else y.opt
  | .call o k => o.bind fun r => (k r).opt
theorem opt_bind {α β : Type} (d : D α) (f : α → D β) : (d.bind f).opt = d.opt.bind fun a => (f a).opt := by
  induction d with
  | ret a => rfl
  | fail => rfl
  | split b x y hx hy => cases b <;> simp [bind, opt, hx, hy]
  | call o k ih => cases o <;> simp [bind, opt, ih]
def ofOpt {α : Type} : Option α → D α
  | some a => .ret a
  | none => .fail
theorem opt_ofOpt {α : Type} (o : Option α) : (ofOpt o).opt = o := by cases o <;> rfl
end D

/-- The structs that are told: their cells' types, how they are taken apart and put together. -/
structure Env (S : Nat → Type) where
  tys : Nat → List Ty
  toC : (i : Nat) → S i → List (Cell S)
  ofC : (i : Nat) → {α : Type} → ((t : Ty) → α → Option (den S t)) → List α → Option (S i)

structure Spec (S : Nat → Type) where
  args : List Ty
  R : Type
  run : List (Cell S) → Option R
  enc : R → List (Cell S)

structure Ctx (S : Nat → Type) where
  P : Program
  E : Env S
  ty : TypeId → Option Ty
  G : Nat → Option (List (V S))
  spec : FuncId → Option (Spec S)
  inl : FuncId → Bool
  own : Bool := false

section
variable {S : Nat → Type} (E : Env S)

def elemCells : (t : Ty) → den S t → List (V S)
  | .st i, x => (E.toC i x).map fun c => .cell c.t c.x
  | t, x => [.cell t x]
def encV : (t : Ty) → den S t → V S
  | .st i, x => .agg ((E.toC i x).map fun c => .cell c.t c.x)
  | t, x => .cell t x
def tsize : Ty → Nat
  | .st i => (E.tys i).length
  | _ => 1

def V.cells : V S → List (V S)
  | .agg cs => cs
  | v => [v]

def V.one : V S → Bool
  | .agg _ => false
  | .tup _ => false
  | .undef => false
  | _ => true
def V.defd : V S → Bool
  | .undef => false
  | .tup _ => false
  | _ => true

def decLeaf (m : Mem S) (t : Ty) : V S → Option (den S t)
  | .cell t' x => if h : t' = t then some (h ▸ x) else none
  | .full t' l => if h : Ty.slice t' = t then some (h ▸ (l : den S (.slice t'))) else none
  | .nilS => match t with
    | .slice _ => some []
    | _ => none
  | .own id g => match m[id]? with
    | some (.arr _ t' l g' _) => if g = g' then (if h : Ty.slice t' = t then some (h ▸ (l : den S (.slice t'))) else none) else none
    | _ => none
  | .clo f [] [] => match t with
    | .fn => some f
    | _ => none
  | _ => none

def decSt (m : Mem S) (i : Nat) : V S → Option (S i)
  | .agg cs => E.ofC i (decLeaf m) cs
  | _ => none
def dec (m : Mem S) : (t : Ty) → V S → Option (den S t)
  | .st i, v => decSt E m i v
  | t, v => decLeaf m t v

def putElem (m : Mem S) : (T : Ty) → List (V S) → V S → Option (den S T)
  | .st n, cs, _ => E.ofC n (decLeaf m) cs
  | T, _, v => decLeaf m T v

def decAll (m : Mem S) : List Ty → List (V S) → Option (List (Cell S))
  | [], [] => some []
  | t :: ts, v :: vs => (dec E m t v).bind fun x => (decAll m ts vs).bind fun r => some (⟨t, x⟩ :: r)
  | _, _ => none

def encAll : List (Cell S) → V S
  | [c] => encV E c.t c.x
  | cs => .tup (cs.map fun c => encV E c.t c.x)
end

def ieq (a b : Int) : Bool := a == b
def geti {α : Type} (l : List α) (i : Int) : Option α := if 0 ≤ i then l[i.toNat]? else none

/-- The own arrays that a value leads to. -/
def V.owns {S : Nat → Type} : V S → List Nat
  | .own id _ => [id]
  | .agg cs => cs.filterMap fun | .own id _ => some id | _ => none
  | _ => []
def mark1 {S : Nat → Type} (m : Mem S) (id : Nat) : Mem S := match m[id]? with
  | some (.arr e t l g _) => m.set id (.arr e t l g true)
  | _ => m
def mark {S : Nat → Type} (m : Mem S) : List Nat → Mem S
  | [] => m
  | id :: ids => mark (mark1 m id) ids

section
variable {S : Nat → Type} (C : Ctx S)

def ofConst : Value → V S
  | .bool b => .cell .bool b
  | .int k n => .cell (.int k) n
  | .string s => .cell .str s.data.toList
  | .slice none 0 0 => .nilS
  | .nilIface => .cell .err false
  | .agg cs => .agg (cs.toList.map fun
    | .bool b => .cell .bool b
    | .int k n => .cell (.int k) n
    | .string s => .cell .str s.data.toList
    | .slice none 0 0 => .nilS
    | .nilIface => .cell .err false
    | _ => .undef)
  | _ => .undef

def sizeOf? (t : TypeId) : Option Nat := (C.P.info? t).map (·.size)
def isAgg? (t : TypeId) : Option Bool := (C.P.underlying t).map fun
  | .struct _ | .array _ _ => true
  | _ => false
def fieldAt? (s : TypeId) (f : Nat) : Option (Nat × TypeId) := match C.P.underlying s with
  | some (.struct fs) => match fs[f]? with
    | some x => match sizeOf? C x.type with
      | some (_ + 1) => some (x.offset, x.type)
      | _ => none
    | none => none
  | _ => none
def fieldsOK (fs : Array Field) : Bool := fs.toList.all fun f => (sizeOf? C f.type).isSome

def take? (t : TypeId) (cs : List (V S)) (off : Nat) : Option (V S) :=
  (isAgg? C t).bind fun a => if a then (sizeOf? C t).bind fun n => if off + n ≤ cs.length then some (.agg ((cs.drop off).take n)) else none else cs[off]?

def setCells (cs : List (V S)) : Nat → List (V S) → List (V S)
  | _, [] => cs
  | off, v :: vs => setCells (cs.set off v) (off + 1) vs

def wr (k : IntKind) (n : Int) : V S := .cell (.int k) (k.wrap n)

def intOp (op : BinOp) (k : IntKind) (a b : Int) : D (V S) :=
  match op with
  | .add => .ret (wr k (a + b))
  | .sub => .ret (wr k (a - b))
  | .mul => .ret (wr k (a * b))
  | .quo => .split (b == 0) .fail (.ret (wr k (a.tdiv b)))
  | .rem => .split (b == 0) .fail (.ret (.cell (.int k) (a.tmod b)))
  | .and => .ret (wr k ((BitVec.ofInt k.bits a &&& BitVec.ofInt k.bits b).toNat : Nat))
  | .or => .ret (wr k ((BitVec.ofInt k.bits a ||| BitVec.ofInt k.bits b).toNat : Nat))
  | .xor => .ret (wr k ((BitVec.ofInt k.bits a ^^^ BitVec.ofInt k.bits b).toNat : Nat))
  | .andNot => .ret (wr k ((BitVec.ofInt k.bits a &&& ~~~ BitVec.ofInt k.bits b).toNat : Nat))
  | .eql => .ret (.cell .bool (a == b))
  | .neq => .ret (.cell .bool (a != b))
  | .lss => .ret (.cell .bool (decide (a < b)))
  | .leq => .ret (.cell .bool (decide (a ≤ b)))
  | .gtr => .ret (.cell .bool (decide (a > b)))
  | .geq => .ret (.cell .bool (decide (a ≥ b)))
  | _ => .fail
def shl (k : IntKind) (a : Int) (b : Int) : Int := k.wrap (a * 2 ^ (min b.toNat k.bits))
def shr (k : IntKind) (a : Int) (b : Int) : Int := a.fdiv (2 ^ (min b.toNat k.bits))
def binInt (op : BinOp) (k k' : IntKind) (a b : Int) : D (V S) :=
  match op with
  | .shl => .split (decide (b < 0)) .fail (.ret (.cell (.int k) (shl k a b)))
  | .shr => .split (decide (b < 0)) .fail (.ret (.cell (.int k) (shr k a b)))
  | _ => if k = k' then intOp op k a b else .fail
def binBool (op : BinOp) (a b : Bool) : D (V S) :=
  match op with
  | .eql => .ret (.cell .bool (a == b))
  | .neq => .ret (.cell .bool (!(a == b)))
  | _ => .fail
def binErr (op : BinOp) (a b : Bool) : D (V S) :=
  if b then .fail else
  match op with
  | .eql => .ret (.cell .bool (!a))
  | .neq => .ret (.cell .bool a)
  | _ => .fail
def binStr (op : BinOp) (a b : List UInt8) : D (V S) :=
  match op with
  | .eql => .ret (.cell .bool (a == b))
  | .neq => .ret (.cell .bool (!(a == b)))
  | .add => .split (decide (a.length + b.length ≤ 1152921504606846976)) (.ret (.cell .str (a ++ b))) .fail
  | _ => .fail
/-- Two structs of numbers, field by field. -/
def eqF : List Field → List (V S) → List (V S) → Option Bool
  | [], _, _ => some true
  | f :: fs, xs, ys => match C.P.underlying f.type, xs[f.offset]?, ys[f.offset]? with
    | some (.int _), some (.cell (.int k) a), some (.cell (.int k') b) => if k = k' ∧ isAgg? C f.type = some false ∧ (f.name == "_") = false then (eqF fs xs ys).map fun r => (ieq a b && r) else none
    | _, _, _ => none
def binAgg (op : BinOp) (t : TypeId) (xs ys : List (V S)) : D (V S) :=
  match C.P.underlying t with
  | some (.struct fs) => if C.P.stoodInHeld t = false ∧ C.P.eqGuardType C.P.depth t = false then (D.ofOpt (eqF C fs.toList xs ys)).bind fun r => match op with
    | .eql => .ret (.cell .bool r)
    | .neq => .ret (.cell .bool (!r))
    | _ => .fail
    else .fail
  | _ => .fail
def binD (op : BinOp) (t : TypeId) (yc : Bool) (x y : V S) : D (V S) :=
  match x, y with
  | .agg xs, .agg ys => binAgg C op t xs ys
  | .cell (.int k) a, .cell (.int k') b => binInt op k k' a b
  | .cell .bool a, .cell .bool b => match C.P.underlying t with
    | some .bool => binBool op a b
    | _ => .fail
  | .cell .str a, .cell .str b => binStr op a b
  | .cell .err a, .cell .err b => match C.P.underlying t with
    | some (.interface _) => if yc then binErr op a b else .fail
    | _ => .fail
  | _, _ => .fail

def unD (op : UnOp) (x : V S) : D (V S) :=
  match op, x with
  | .not, .cell .bool b => .ret (.cell .bool (not b))
  | .neg, .cell (.int k) n => .ret (wr k (Int.sub 0 n))
  | _, _ => .fail

/-- One of a few, by a number. -/
def pickAt {α : Type} (i : Int) : Nat → List α → (Nat → α → D (V S)) → D (V S)
  | _, [], _ => .fail
  | n, x :: xs, f => .split (i == (n : Int)) (f n x) (pickAt i (n + 1) xs f)

def maxList : Nat := 137438953472
def okLen (n : Int) : Bool := decide (0 ≤ n ∧ n ≤ (maxList : Int))
def elemAt (m : Mem S) (T : Ty) (x : V S) (i : Int) : D (V S × Mem S) :=
  match x with
  | .cell (.slice t) l => if t = T then .call (geti l i) fun x => .ret (.ro (elemCells C.E t x), m) else .fail
  | .full t l => if t = T then .call (geti l i) fun x => .ret (.ro (elemCells C.E t x), m) else .fail
  | .own id g => match m[id]? with
    | some (.arr _ t l g' _) => if t = T then (if g = g' then .split (decide (0 ≤ i ∧ i < (l.length : Int))) (.ret (.eptr id g i.toNat 0, m)) .fail else .fail) else .fail
    | _ => .fail
  | _ => .fail

def semLoad (m : Mem S) (t : TypeId) : V S → D (V S × Mem S)
  | .ptr id off => match m[id]? with
    | some (.box cs _) => (D.ofOpt (take? C t cs off)).bind fun v => .ret (v, m)
    | _ => .fail
  | .ro cs => (D.ofOpt (take? C t cs 0)).bind fun v => .ret (v, m)
  | .eptr id g i off => match m[id]? with
    | some (.arr _ T l g' _) => if g = g' then .call l[i]? fun x => (D.ofOpt (take? C t (elemCells C.E T x) off)).bind fun v => .ret (v, m) else .fail
    | _ => .fail
  | _ => .fail

def semStore (m : Mem S) (t : TypeId) (v : V S) : V S → D (V S × Mem S)
  | .ptr id off => match m[id]? with
    | some (.box cs false) => if v.cells.all V.one = true ∧ some v.cells.length = sizeOf? C t ∧ off + v.cells.length ≤ cs.length then .ret (.undef, m.set id (.box (setCells cs off v.cells) false)) else .fail
    | _ => .fail
  | .eptr id g i off => match m[id]? with
    | some (.arr e T l g' false) => if g = g' ∧ v.owns.contains id = false then .call l[i]? fun x =>
        let cs := elemCells C.E T x
        if v.cells.all V.one = true ∧ some v.cells.length = sizeOf? C t ∧ off + v.cells.length ≤ cs.length then
          (D.ofOpt (putElem C.E m T (setCells cs off v.cells) v)).bind fun y => .ret (.undef, (mark m v.owns).set id (.arr e T (l.set i y) g false))
        else .fail
      else .fail
    | _ => .fail
  | _ => .fail

def isNilC : Option (V S) → Bool
  | none => true
  | some _ => false

/-- The bounds of xs[lo:hi] or xs[lo:hi:max]; the last is whether the capacity is the length. -/
def bounds (len : Int) (isFull : Bool) : Option (V S) → Option (V S) → Option (V S) → Option (Int × Int × Option Int × Bool)
  | none, none, none => some (0, len, none, isFull)
  | some (.cell (.int .i64) a), none, none => some (a, len, none, isFull)
  | none, some (.cell (.int .i64) b), none => some (0, b, none, false)
  | some (.cell (.int .i64) a), some (.cell (.int .i64) b), none => some (a, b, none, false)
  | none, some (.cell (.int .i64) b), some (.cell (.int .i64) c) => some (0, b, some c, true)
  | some (.cell (.int .i64) a), some (.cell (.int .i64) b), some (.cell (.int .i64) c) => some (a, b, some c, true)
  | _, _, _ => none
def okBounds (len a b : Int) (c : Option Int) : Bool := decide (0 ≤ a ∧ a ≤ b ∧ b ≤ len) && (match c with | some c => ieq b c | none => true)
def semSlice (t : Ty) (l : List (den S t)) (isFull : Bool) (lo hi mx : Option (V S)) : D (V S) :=
  (D.ofOpt (bounds l.length isFull lo hi mx)).bind fun p =>
    .split (okBounds l.length p.1 p.2.1 p.2.2.1)
      (.ret (if p.2.2.2 then .full t ((l.take p.2.1.toNat).drop p.1.toNat) else .cell (.slice t) ((l.take p.2.1.toNat).drop p.1.toNat))) .fail

def listOf (m : Mem S) (T : Ty) (v : V S) : Option (List (den S T)) := decLeaf m (.slice T) v

/-- append of a list to what may grow. -/
def semAppend (m : Mem S) (e : TypeId) (T : Ty) (s x : V S) : D (V S × Mem S) :=
  (D.ofOpt (listOf m T x)).bind fun ys =>
  match s with
  | .nilS => .split (decide (ys.length ≤ maxList)) (.ret (.own m.length 0, m ++ [.arr e T ys 0 false])) .fail
  | .full t l => if h : t = T then .split ys.isEmpty (.ret (.full t l, m)) (.split (decide (l.length + ys.length ≤ maxList)) (.ret (.own m.length 0, m ++ [.arr e T ((h ▸ l) ++ ys) 0 false])) .fail) else .fail
  | .own id g => match m[id]? with
    | some (.arr e' t l g' fz) => if h : t = T then
        if g = g' ∧ e = e' then .split (decide (l.length + ys.length ≤ maxList)) (.ret (.own id (g + 1), m.set id (.arr e T ((h ▸ l) ++ ys) (g + 1) fz))) .fail else .fail
      else .fail
    | _ => .fail
  | _ => .fail

def semLen (m : Mem S) : V S → D (V S)
  | .cell (.slice _) l => .ret (.cell (.int .i64) (List.length l : Int))
  | .full _ l => .ret (.cell (.int .i64) (l.length : Int))
  | .nilS => .ret (.cell (.int .i64) (0 : Int))
  | .cell .str l => .ret (.cell (.int .i64) (List.length (α := UInt8) l : Int))
  | .own id g => match m[id]? with
    | some (.arr _ _ l g' _) => if g = g' then .ret (.cell (.int .i64) (l.length : Int)) else .fail
    | _ => .fail
  | _ => .fail

def mm (mx : Bool) (a b : Int) : Int := if mx then (if b > a then b else a) else (if b < a then b else a)
def semMinMax (mx : Bool) : List (V S) → D (V S)
  | .cell (.int k) x :: rest => rest.foldl (fun d y => d.bind fun v => match v, y with
    | .cell (.int j) a, .cell (.int j') b => if j = k ∧ j' = k then .ret (.cell (.int k) (mm mx a b)) else .fail
    | _, _ => .fail) (.ret (.cell (.int k) x))
  | _ => .fail

def allM {α : Type} : List (Option α) → Option (List α)
  | [] => some []
  | none :: _ => none
  | some a :: r => (allM r).map (a :: ·)

/-- The fields of a struct value that is built. -/
def fillV (s : TypeId) : List (V S) → List (Nat × V S) → Option (List (V S))
  | cs, [] => some cs
  | cs, (i, v) :: r => match fieldAt? C s i with
    | some (off, t) => if v.defd = true ∧ some v.cells.length = sizeOf? C t ∧ off + v.cells.length ≤ cs.length then fillV s (setCells cs off v.cells) r else none
    | none => none

def fillA (sz : Nat) : List (V S) → List (Nat × V S) → Option (List (V S))
  | cs, [] => some cs
  | cs, (i, v) :: r => if v.defd = true ∧ v.cells.length = sz ∧ i * sz + v.cells.length ≤ cs.length then fillA sz (setCells cs (i * sz) v.cells) r else none

def inOrder : Nat → List (Nat × V S) → Option (List (V S))
  | _, [] => some []
  | n, (i, v) :: r => if i = n then (inOrder (n + 1) r).map (v :: ·) else none

/-- What an own map of truths holds; what it holds behind a store. -/
def mget (n : Int) : List (Int × Bool) → Bool
  | [] => false
  | p :: r => bif ieq n p.1 then p.2 else mget n r
def mput (n : Int) (b : Bool) : List (Int × Bool) → List (Int × Bool)
  | [] => [(n, b)]
  | p :: r => bif ieq n p.1 then (n, b) :: r else p :: mput n b r
/-- The same, with whether it is there. -/
def mapAtOk (z : V S) (n : Int) : List (Int × V S) → D (V S)
  | [] => .ret (.tup [z, .cell .bool false])
  | p :: r => .split (ieq n p.1) (.ret (.tup [p.2, .cell .bool true])) (mapAtOk z n r)
/-- A method of a struct's own. -/
def mthOf (C : Ctx S) (t : TypeId) (name : String) : Option FuncId := match C.P.info? t with
  | some i => match i.methods.find? (·.name == name) with
    | some r => match r.path.toList, r.func, C.P.underlying t with
      | [], some (f, false), some (.struct _) => some f
      | _, _, _ => none
    | none => none
  | none => none
/-- What a map of interface values gives where nothing is. -/
def nilElem (t : TypeId) : Bool := match C.P.underlying t with
  | some (.map _ e) => match (C.P.info? e).bind (·.zero) with
    | some .nilIface => true
    | _ => false
  | _ => false
def mapAt (n : Int) : List (Int × V S) → D (V S)
  | [] => .fail
  | p :: r => .split (ieq n p.1) (.ret p.2) (mapAt n r)

/-- A map from numbers to truths. -/
def mapKB (t : TypeId) : Option IntKind := match C.P.underlying t with
  | some (.map k e) => match C.P.underlying k, C.P.underlying e with
    | some (.int q), some .bool => bif (match (C.P.info? e).bind (·.zero) with | some (.bool false) => true | _ => false) then some q else none
    | _, _ => none
  | _ => none
def semMapGet (m : Mem S) (t : TypeId) (x : V S) (q : IntKind) (n : Int) : D (V S) :=
  match x with
  | .mapr id => match m[id]? with
    | some (.map (.int k) .bool l) => if k = q ∧ mapKB C t = some k then .ret (.cell .bool (mget n l)) else .fail
    | _ => .fail
  | _ => .fail
def semMapPut (m : Mem S) (t : TypeId) (x i v : V S) : D (V S × Mem S) :=
  match x, i, v with
  | .mapr id, .cell (.int q) n, .cell .bool b => match m[id]? with
    | some (.map (.int k) .bool l) => if k = q ∧ mapKB C t = some k then .ret (.undef, m.set id (.map (.int k) .bool (mput n b l))) else .fail
    | _ => .fail
  | _, _, _ => .fail
def semBuild (t : TypeId) (ps : List (Nat × V S)) : D (V S) :=
  (D.ofOpt ((C.P.info? t).bind (·.zero))).bind fun z =>
    match C.P.underlying t with
    | some (.struct fs) => if fieldsOK C fs then (D.ofOpt (fillV C t (ofConst (S := S) z).cells ps)).bind fun cs => .ret (.agg cs) else .fail
    | some (.array _ e) => (D.ofOpt (sizeOf? C e)).bind fun sz => (D.ofOpt (fillA sz (ofConst (S := S) z).cells ps)).bind fun cs => .ret (.agg cs)
    | _ => .fail
def semMake (m : Mem S) (t : TypeId) (len cap : V S) : D (V S × Mem S) :=
  match C.P.underlying t with
  | some (.slice e) => (D.ofOpt (C.ty e)).bind fun T =>
    match len, cap with
    | .cell (.int .i64) n, .cell (.int .i64) n' => .split (ieq n n' && okLen n)
        ((D.ofOpt ((C.P.info? e).bind (·.zero))).bind fun z => (D.ofOpt (dec C.E m T (ofConst z))).bind fun x => .ret (.own m.length 0, m ++ [.arr e T (List.replicate (Int.toNat n) x) 0 false])) .fail
    | _, _ => .fail
  | _ => .fail
def semSl (m : Mem S) (T : Ty) (x : V S) (lo hi mx : Option (V S)) : D (V S × Mem S) :=
  match x with
  | .cell (.slice t) l => if t = T then (semSlice t l false lo hi mx).bind fun v => .ret (v, m) else .fail
  | .full t l => if t = T then (semSlice t l true lo hi mx).bind fun v => .ret (v, m) else .fail
  | .own id g => match m[id]? with
    | some (.arr _ t l g' _) => if g = g' ∧ t = T then (semSlice t l false lo hi mx).bind fun v => .ret (v, mark m [id]) else .fail
    | _ => .fail
  | _ => .fail
/-- A piece of a string. -/
def strCut (l : List UInt8) (a b : Int) : D (V S) := .split (decide (0 ≤ a ∧ a ≤ b ∧ b ≤ (l.length : Int))) (.ret (.cell .str ((l.drop a.toNat).take (b.toNat - a.toNat)))) .fail
def semStr (x : V S) (lo hi mx : Option (V S)) : D (V S) :=
  match x, mx with
  | .cell .str l, none => match lo, hi with
    | none, none => .ret (.cell .str l)
    | some (.cell (.int .i64) a), none => strCut l a (List.length (α := UInt8) l : Int)
    | none, some (.cell (.int .i64) b) => strCut l 0 b
    | some (.cell (.int .i64) a), some (.cell (.int .i64) b) => strCut l a b
    | _, _ => .fail
  | _, _ => .fail
def strOf (l : List Int) : List UInt8 := l.map fun n => UInt8.ofNat n.toNat
/-- A string of a list of bytes. -/
def semBytes (m : Mem S) (src : TypeId) (x : V S) : D (V S × Mem S) :=
  match C.P.underlying src with
  | some (.slice e) => match C.P.underlying e with
    | some (.int .u8) => (D.ofOpt (listOf m (.int .u8) x)).bind fun l => .ret (.cell .str (strOf l), mark m x.owns)
    | _ => .fail
  | _ => .fail
def asCell (T : Ty) : V S → Option (den S T)
  | .cell t x => if h : t = T then some (h ▸ x) else none
  | _ => none
/-- An own array variable, as a list from now on. -/
def semBoxAll (m : Mem S) (n : Nat) (e : TypeId) (x : V S) : D (V S × Mem S) :=
  match x with
  | .ptr id 0 => match m[id]? with
    | some (.box cs _) => (D.ofOpt (C.ty e)).bind fun T => if cs.length = n ∧ tsize C.E T = 1 then (D.ofOpt (allM (cs.map (asCell T)))).bind fun l => .ret (.full T l, m.set id (.box cs true)) else .fail
    | _ => .fail
  | _ => .fail
def semFA (off : Nat) : V S → D (V S)
  | .ptr id o => .ret (.ptr id (o + off))
  | .ro cs => if off ≤ cs.length then .ret (.ro (cs.drop off)) else .fail
  | .eptr id g i o => .ret (.eptr id g i (o + off))
  | _ => .fail
def semFld (p : Nat × TypeId) : V S → D (V S)
  | .agg cs => D.ofOpt (take? C p.2 cs p.1)
  | _ => .fail
def semIA (m : Mem S) (t : TypeId) (x i : V S) : D (V S × Mem S) :=
  match C.P.underlying t, i with
  | some (.slice e), .cell (.int .i64) n => (D.ofOpt (C.ty e)).bind fun T => elemAt C m T x n
  | some (.array len e), .cell (.int .i64) n => (D.ofOpt (sizeOf? C e)).bind fun sz =>
    match x with
    | .ptr id off => (pickAt n 0 (List.range len) fun k _ => .ret (.ptr id (off + k * sz))).bind fun v => .ret (v, m)
    | .ro cs => (pickAt n 0 (List.range len) fun k _ => if k * sz ≤ cs.length then .ret (.ro (cs.drop (k * sz))) else .fail).bind fun v => .ret (v, m)
    | _ => .fail
  | _, _ => .fail
def semIdx (t : TypeId) (x i : V S) : D (V S) :=
  match C.P.underlying t, x, i with
  | some (.array len e), .agg cs, .cell (.int .i64) n => pickAt n 0 (List.range len) fun k _ => D.ofOpt ((sizeOf? C e).bind fun sz => take? C e cs (k * sz))
  | some .string, .cell .str l, .cell (.int .i64) n => .call (geti (α := UInt8) l n) fun b => .ret (.cell (.int .u8) (b.toNat : Int))
  | _, _, _ => .fail
def semCopy (m : Mem S) (e : TypeId) (T : Ty) (d x : V S) : D (V S × Mem S) :=
  (D.ofOpt (listOf m T x)).bind fun ys =>
  match d with
  | .own id g => match m[id]? with
    | some (.arr e' t l g' false) => if h : t = T then
        if g = g' ∧ e = e' then .ret (.cell (.int .i64) ((min ys.length l.length : Nat) : Int), m.set id (.arr e T (ys.take l.length ++ (h ▸ l : List (den S T)).drop ys.length) g false)) else .fail
      else .fail
    | _ => .fail
  | _ => .fail

def semBS (m : Mem S) (t : TypeId) (len : Nat) (ps : List (Nat × V S)) : D (V S × Mem S) :=
  match C.P.underlying t with
  | some (.slice e) => (D.ofOpt (C.ty e)).bind fun T => (D.ofOpt (inOrder 0 ps)).bind fun vs =>
    (D.ofOpt (allM (vs.map (dec C.E m T)))).bind fun l => if vs.length = len ∧ len * tsize C.E T ≤ 16777216 then (bif C.own then .ret (.own m.length 0, mark m (vs.flatMap V.owns) ++ [.arr e T l 0 false]) else .ret (if len = 0 then .nilS else .full T l, mark m (vs.flatMap V.owns))) else .fail
  | _ => .fail
def lenOk (t : TypeId) (x : V S) : Bool := match C.P.underlying t, x with
  | some .string, .cell .str _ => true
  | some (.slice _), .cell .str _ => false
  | some (.slice _), _ => true
  | _, _ => false
def mapInt (t : TypeId) : Bool := match C.P.underlying t with
  | some (.map k _) => match C.P.underlying k with
    | some (.int _) => true
    | _ => false
  | _ => false

abbrev Cl (S : Nat → Type) := FuncId → List (V S) → Mem S → D (V S × Mem S)

def callFn (cl : Cl S) (m : Mem S) (f : FuncId) (args : List (V S)) : D (V S × Mem S) :=
  match C.spec f with
  | some sp => (D.ofOpt (decAll C.E m sp.args args)).bind fun cs => .call (sp.run cs) fun r => .ret (encAll C.E (sp.enc r), mark m (args.flatMap V.owns))
  | none => if C.inl f then cl f args m else .fail

def semOp (cl : Cl S) (m : Mem S) (ev : Operand → V S) (o : Oper) : D (V S × Mem S) :=
  match o.op with
  | .move x | .assign x => .ret (ev x, m)
  | .pick c a b => match ev c with
    | .cell .bool t => .split t (.ret (ev a, m)) (.ret (ev b, m))
    | _ => .fail
  | .alloc t => (D.ofOpt ((C.P.info? t).bind (·.zero))).bind fun z => .ret (.ptr m.length 0, m ++ [.box (ofConst (S := S) z).cells false])
  | .box _ x => if (ev x).defd then .ret (.ptr m.length 0, m ++ [.box (ev x).cells false]) else .fail
  | .build t parts => (semBuild C t (parts.toList.map fun p => (p.1, ev p.2))).bind fun v => .ret (v, m)
  | .buildSlice t len parts => semBS C m t len (parts.toList.map fun p => (p.1, ev p.2))
  | .load t a => semLoad C m t (ev a)
  | .store t a x => semStore C m t (ev x) (ev a)
  | .nilCheck x => match ev x with
    | .ptr id off => .ret (.ptr id off, m)
    | .eptr id g i off => .ret (.eptr id g i off, m)
    | .ro cs => .ret (.ro cs, m)
    | .clo f a b => .ret (.clo f a b, m)
    | _ => .fail
  | .binOp op t x y _ => (binD C op t (match y with | .const _ => true | _ => false) (ev x) (ev y)).bind fun v => .ret (v, m)
  | .unOp op _ x => (unD op (ev x)).bind fun v => .ret (v, m)
  | .convert src dst x => match C.P.underlying dst, ev x with
    | some (.int k), .cell (.int _) n => if (C.P.underlying src).isSome = true then .ret (wr k n, m) else .fail
    | some .string, x => semBytes C m src x
    | _, _ => .fail
  | .makeFunc (.func f) first caps => .ret (.clo f (first.toList.map ev) (caps.toList.map ev), m)
  | .makeSlice t len cap => semMake C m t (ev len) (ev cap)
  | .slice t x lo hi mx => match C.P.underlying t with
    | some (.slice e) => (D.ofOpt (C.ty e)).bind fun T => semSl m T (ev x) (lo.map ev) (hi.map ev) (mx.map ev)
    | some .string => (semStr (ev x) (lo.map ev) (hi.map ev) (mx.map ev)).bind fun v => .ret (v, m)
    | some (.array n e) => match lo, hi, mx with
      | none, none, none => semBoxAll C m n e (ev x)
      | _, _, _ => .fail
    | _ => .fail
  | .fieldAddr s x f => (D.ofOpt (fieldAt? C s f)).bind fun p => (semFA p.1 (ev x)).bind fun v => .ret (v, m)
  | .field s x f => (D.ofOpt (fieldAt? C s f)).bind fun p => (semFld C p (ev x)).bind fun v => .ret (v, m)
  | .indexAddr t x i => semIA C m t (ev x) (ev i)
  | .index t x i => (semIdx C t (ev x) (ev i)).bind fun v => .ret (v, m)
  | .lookup t x i false => if mapInt C t = true then (match ev x, ev i with
    | .cmap es, .cell (.int .i64) n => (mapAt n es).bind fun v => .ret (v, m)
    | .mapr id, .cell (.int q) n => (semMapGet C m t (.mapr id) q n).bind fun v => .ret (v, m)
    | _, _ => .fail) else .fail
  | .lookup t x i true => if mapInt C t = true ∧ nilElem C t = true then (match ev x, ev i with
    | .cmap es, .cell (.int .i64) n => (mapAtOk (.cell .err false) n es).bind fun v => .ret (v, m)
    | _, _ => .fail) else .fail
  | .makeMap t none => match mapKB C t with
    | some k => .ret (.mapr m.length, m ++ [.map (.int k) .bool []])
    | none => .fail
  | .mapUpdate t x i v => semMapPut C m t (ev x) (ev i) (ev v)
  | .extract t i => match ev t with
    | .tup vs => (D.ofOpt vs[i]?).bind fun v => .ret (v, m)
    | _ => .fail
  | .call c => match c.callee with
    | .builtin .len => match c.args.toList, c.argTypes.toList with
      | [x], [t] => if lenOk C t (ev x) = true then (semLen m (ev x)).bind fun v => .ret (v, m) else .fail
      | _, _ => .fail
    | .builtin .append => match c.args.toList, c.argTypes.toList with
      | [s, x], [t, t'] => match C.P.underlying t with
        | some (.slice e) => if t = t' then (D.ofOpt (C.ty e)).bind fun T => semAppend m e T (ev s) (ev x) else .fail
        | _ => .fail
      | _, _ => .fail
    | .builtin .copy => match c.args.toList, c.argTypes.toList with
      | [d, x], [t, _] => match C.P.underlying t with
        | some (.slice e) => (D.ofOpt (C.ty e)).bind fun T => if tsize C.E T = 1 then semCopy m e T (ev d) (ev x) else .fail
        | _ => .fail
      | _, _ => .fail
    | .builtin .min => (semMinMax false (c.args.toList.map ev)).bind fun v => .ret (v, m)
    | .builtin .max => (semMinMax true (c.args.toList.map ev)).bind fun v => .ret (v, m)
    | .value f => match ev f with
      | .clo g first caps => callFn C cl m g (first ++ c.args.toList.map ev ++ caps)
      | _ => .fail
    | .invoke r nm => match ev r with
      | .ifc t => match mthOf C t nm with
        | some f => callFn C cl m f (.agg [] :: c.args.toList.map ev)
        | none => .fail
      | _ => .fail
    | _ => .fail
  | _ => .fail

structure St (S : Nat → Type) where
  tmps : List (V S)
  mem : Mem S

def St.ev (s : St S) : Operand → V S
  | .tmp t => s.tmps.getD t .undef
  | .const v => ofConst v
  | .global g => match C.G g with
    | some cs => .ro cs
    | none => .undef
  | .func f => .clo f [] []

def St.put (s : St S) (dst : Option Nat) (p : V S × Mem S) : St S := { tmps := match dst with | some d => s.tmps.set d p.1 | none => s.tmps, mem := p.2 }

/-- The operations of a region, in the order of the text; a guard is asked once. -/
def semOps (cl : Cl S) (all : List Oper) : List Oper → St S → D (St S)
  | [], s => .ret s
  | o :: r, s =>
    match o.guard with
    | none => (semOp C cl s.mem (s.ev C) o).bind fun p => semOps cl all r (s.put o.dst p)
    | some (j, want) =>
      match (all[j]?).bind (·.dst) with
      | some d => match s.tmps[d]? with
        | some (.cell .bool b) =>
          let yes (s : St S) := (semOp C cl s.mem (s.ev C) o).bind fun p => semOps cl all r (s.put o.dst p)
          let no (s : St S) := semOps cl all r (s.put o.dst (.tup [], s.mem))
          .split b (let s' : St S := { s with tmps := s.tmps.set d (.cell .bool true) }; if want then yes s' else no s')
                   (let s' : St S := { s with tmps := s.tmps.set d (.cell .bool false) }; if want then no s' else yes s')
        | some (.tup []) => semOps cl all r (s.put o.dst (.tup [], s.mem))
        | _ => .fail
      | none => .fail

abbrev Lp (S : Nat → Type) (R : Type) := List Item → St S → D R

def ex {R : Type} (cl : Cl S) (L : Lp S R) (fin : St S → D R) : Nat → List Item → St S → D R
  | 0, _, _ => .fail
  | n + 1, todo, s =>
    match todo with
    | [] => fin s
    | .code .ret :: _ => fin s
    | .code .skip :: k | .code (.label _) :: k | .inBlock _ :: k | .inScope _ :: k => ex cl L fin n k s
    | .code (.seq a b) :: k => ex cl L fin n (.code a :: .code b :: k) s
    | .code (.cond c x y) :: k => match s.ev C c with
      | .cell .bool b => .split b (ex cl L fin n (.code x :: k) s) (ex cl L fin n (.code y :: k) s)
      | _ => .fail
    | .code (.block id b) :: k => ex cl L fin n (.code b :: .inBlock id :: k) s
    | .code (.scope b) :: k => ex cl L fin n (.code b :: .inScope b :: k) s
    | .code (.loop b) :: k | .inLoop b :: k => L (.inLoop b :: k) s
    | .code (.exit id) :: k => match exitTo id k with
      | some k' => ex cl L fin n k' s
      | none => .fail
    | .code (.region _ ops _) :: k => (semOps C cl ops.toList ops.toList s).bind fun s' => ex cl L fin n k s'
    | _ => .fail

def resOne (s : St S) : ResultVar → Option (V S)
  | .tmp t => some (s.tmps.getD t .undef)
  | .cell a t => match s.tmps.getD a .undef with
    | .ptr id off => match s.mem[id]? with
      | some (.box cs _) => take? C t cs off
      | _ => none
    | _ => none
def resV (rs : List ResultVar) (s : St S) : Option (V S) :=
  match rs.map (resOne C s) with
  | [some v] => some v
  | l => (allM l).map .tup

def fuel : Nat := 100000
def st0 (fn : Func) (args : List (V S)) (m : Mem S) : St S := { tmps := args ++ List.replicate (fn.ntmps - args.length) .undef, mem := m }

/-- A call that is gone into, without loops. -/
def clD : Nat → Cl S
  | 0 => fun _ _ _ => .fail
  | d + 1 => fun f args m => match C.P.funcs[f]? with
    | some fn => match fn.body with
      | some b => ex C (clD d) (fun _ _ => .fail) (fun s => (D.ofOpt (resV C fn.results.toList s)).bind fun v => .ret (v, s.mem)) fuel [.code b] (st0 fn args m)
      | none => .fail
    | none => .fail

/-- What is kept at a loop's head. -/
structure Ann where
  live : List Nat
  objs : Nat

/-- A body's outcome: its results, read as what they are told to be. -/
def finT (fn : Func) (ts : List Ty) (s : St S) : D (List (Cell S)) :=
  (D.ofOpt (resV C fn.results.toList s)).bind fun v =>
    match ts, v with
    | [t], v => (D.ofOpt (dec C.E s.mem t v)).bind fun x => .ret [⟨t, x⟩]
    | ts, .tup vs => D.ofOpt (decAll C.E s.mem ts vs)
    | _, _ => .fail

def body? (f : FuncId) : Option (Func × Code) := (C.P.funcs[f]?).bind fun fn => fn.body.map fun b => (fn, b)
end
end Go.Lv
