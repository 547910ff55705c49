import Derived.Test.YtonphdpgepnenaaDoorLvP1
namespace Go.Lv.Ld
set_option linter.all false
noncomputable section
open Go Go.Lv Go.IntWalk
set_option linter.unusedVariables false
set_option linter.unusedSimpArgs false

def U32 (n : Int) : Prop := 0 ≤ n ∧ n ≤ 4294967295
theorem lit_in {k : IntKind} {n : Int} (h : (Lit.int k n).wf = true) : k.min ≤ n ∧ n ≤ k.max := by
  have h2 : (decide (k.min ≤ n) && decide (n ≤ k.max)) = true := h
  simpa using h2
theorem wf_int {k : IntKind} {n : Int} (h : Wf E (.int k) n) : k.min ≤ n ∧ n ≤ k.max := by
  cases h with
  | int _ _ h => exact lit_in h
theorem wf_i64 {n : Int} (h : Wf E i64 n) : I64 n := wf_int h
theorem wf_u64 {n : Int} (h : Wf E u64 n) : U64 n := wf_int h
theorem wf_u32 {n : Int} (h : Wf E u32 n) : U32 n := wf_int h
theorem wf_u8 {n : Int} (h : Wf E (.int .u8) n) : 0 ≤ n ∧ n ≤ 255 := wf_int h
theorem wf_u16 {n : Int} (h : Wf E (.int .u16) n) : 0 ≤ n ∧ n ≤ 65535 := wf_int h
/-- A list of numbers, each in range. -/
def WL (P : Int → Prop) (l : List Int) : Prop := l.length ≤ 9223372036854775807 ∧ ∀ x, x ∈ l → P x
theorem maxLen_le : maxLen ≤ 9223372036854775807 := Nat.le_refl _
theorem wf_slice {k : IntKind} {l : List Int} (h : Wf E (.slice (.int k)) l) : WL (fun n => k.min ≤ n ∧ n ≤ k.max) l := by
  cases h with
  | slice _ _ hl h =>
    refine ⟨Nat.le_trans hl maxLen_le, fun x hx => ?_⟩
    obtain ⟨i, hi⟩ := List.getElem?_of_mem hx
    exact wf_int (h i x hi 0 ⟨.int k, x⟩ rfl)
theorem v_int {k : IntKind} {n : Int} (h : WfV E (.int k) n) : k.min ≤ n ∧ n ≤ k.max := wf_int (h 0 ⟨.int k, n⟩ rfl)
theorem v_slice {k : IntKind} {l : List Int} (h : WfV E (.slice (.int k)) l) : WL (fun n => k.min ≤ n ∧ n ≤ k.max) l := wf_slice (h 0 ⟨.slice (.int k), l⟩ rfl)

structure WBlock (b : Block) : Prop where
  base : U32 b.base
  pre : I64 b.pre
structure WConf (c : Conf) : Prop where
  block : WBlock c.block
  held : WL I64 c.held
  shards : I64 c.shards
  workers : I64 c.workers
  queue : I64 c.queue
  tries : I64 c.tries
structure WAsk (a : Ask) : Prop where
  kind : I64 a.kind
  addr : U32 a.addr
  addrs : WL U32 a.addrs
structure WAns (a : Answer) : Prop where
  err : I64 a.err
  addr : U32 a.addr
  addrs : WL U32 a.addrs
  errs : WL I64 a.errs
structure WOp (o : Oq) : Prop where
  ask : WAsk o.ask
  answer : WAns o.answer
  phase : I64 o.phase
  shard : I64 o.shard
  sought : I64 o.sought
  leaf : I64 o.leaf
  bit : I64 o.bit
  word : U64 o.word
  seen : WL U64 o.seen
  at_ : I64 o.at_
  tries : I64 o.tries
  item : I64 o.item
  stamp : I64 o.stamp
structure WCall (c : Call) : Prop where
  client : I64 c.client
  ask : WAsk c.ask
  from_ : I64 c.from_
  to_ : I64 c.to_
  answer : WAns c.answer
structure WEvent (e : Event) : Prop where
  kind : I64 e.kind
  client : I64 e.client
  ask : I64 e.ask
  item : I64 e.item
  at_ : I64 e.at_
  answer : WAns e.answer

theorem v_block {b : Block} (h : WfV E (.st 0) b) : WBlock b := ⟨wf_int (h 0 ⟨u32, b.base⟩ rfl), wf_int (h 1 ⟨i64, b.pre⟩ rfl)⟩
theorem v_conf {c : Conf} (h : WfV E (.st 1) c) : WConf c :=
  ⟨⟨wf_int (h 0 ⟨u32, c.block.base⟩ rfl), wf_int (h 1 ⟨i64, c.block.pre⟩ rfl)⟩, wf_slice (h 2 ⟨.slice i64, c.held⟩ rfl), wf_int (h 3 ⟨i64, c.shards⟩ rfl), wf_int (h 4 ⟨i64, c.workers⟩ rfl), wf_int (h 5 ⟨i64, c.queue⟩ rfl), wf_int (h 6 ⟨i64, c.tries⟩ rfl)⟩
theorem v_ask {a : Ask} (h : WfV E (.st 2) a) : WAsk a := ⟨wf_int (h 0 ⟨i64, a.kind⟩ rfl), wf_int (h 1 ⟨u32, a.addr⟩ rfl), wf_slice (h 2 ⟨.slice u32, a.addrs⟩ rfl)⟩
theorem v_op {o : Oq} (h : WfV E (.st 4) o) : WOp o :=
  ⟨⟨wf_int (h 0 ⟨i64, o.ask.kind⟩ rfl), wf_int (h 1 ⟨u32, o.ask.addr⟩ rfl), wf_slice (h 2 ⟨.slice u32, o.ask.addrs⟩ rfl)⟩,
   ⟨wf_int (h 3 ⟨i64, o.answer.err⟩ rfl), wf_int (h 4 ⟨u32, o.answer.addr⟩ rfl), wf_slice (h 6 ⟨.slice u32, o.answer.addrs⟩ rfl), wf_slice (h 7 ⟨.slice i64, o.answer.errs⟩ rfl)⟩,
   wf_int (h 8 ⟨i64, o.phase⟩ rfl), wf_int (h 9 ⟨i64, o.shard⟩ rfl), wf_int (h 10 ⟨i64, o.sought⟩ rfl), wf_int (h 11 ⟨i64, o.leaf⟩ rfl), wf_int (h 12 ⟨i64, o.bit⟩ rfl), wf_int (h 13 ⟨u64, o.word⟩ rfl),
   wf_slice (h 15 ⟨.slice u64, o.seen⟩ rfl), wf_int (h 16 ⟨i64, o.at_⟩ rfl), wf_int (h 17 ⟨i64, o.tries⟩ rfl), wf_int (h 18 ⟨i64, o.item⟩ rfl), wf_int (h 19 ⟨i64, o.stamp⟩ rfl)⟩
theorem wf_call {c : Call} (h : ∀ (j : Nat) (x : Cell S), (toC 5 c)[j]? = some x → Wf E x.t x.x) : WCall c :=
  ⟨wf_int (h 0 ⟨i64, c.client⟩ rfl), ⟨wf_int (h 1 ⟨i64, c.ask.kind⟩ rfl), wf_int (h 2 ⟨u32, c.ask.addr⟩ rfl), wf_slice (h 3 ⟨.slice u32, c.ask.addrs⟩ rfl)⟩, wf_int (h 4 ⟨i64, c.from_⟩ rfl), wf_int (h 5 ⟨i64, c.to_⟩ rfl),
   ⟨wf_int (h 6 ⟨i64, c.answer.err⟩ rfl), wf_int (h 7 ⟨u32, c.answer.addr⟩ rfl), wf_slice (h 9 ⟨.slice u32, c.answer.addrs⟩ rfl), wf_slice (h 10 ⟨.slice i64, c.answer.errs⟩ rfl)⟩⟩
theorem wf_event {e : Event} (h : ∀ (j : Nat) (x : Cell S), (toC 6 e)[j]? = some x → Wf E x.t x.x) : WEvent e :=
  ⟨wf_int (h 0 ⟨i64, e.kind⟩ rfl), wf_int (h 1 ⟨i64, e.client⟩ rfl), wf_int (h 2 ⟨i64, e.ask⟩ rfl), wf_int (h 3 ⟨i64, e.item⟩ rfl), wf_int (h 4 ⟨i64, e.at_⟩ rfl),
   ⟨wf_int (h 5 ⟨i64, e.answer.err⟩ rfl), wf_int (h 6 ⟨u32, e.answer.addr⟩ rfl), wf_slice (h 8 ⟨.slice u32, e.answer.addrs⟩ rfl), wf_slice (h 9 ⟨.slice i64, e.answer.errs⟩ rfl)⟩⟩
theorem v_calls {l : List Call} (h : WfV E (.slice (.st 5)) l) : l.length ≤ 9223372036854775807 ∧ ∀ x, x ∈ l → WCall x := by
  have h0 := h 0 ⟨.slice (.st 5), l⟩ rfl
  cases h0 with
  | slice _ _ hl h =>
    refine ⟨Nat.le_trans hl maxLen_le, fun x hx => ?_⟩
    obtain ⟨i, hi⟩ := List.getElem?_of_mem hx
    exact wf_call (h i x hi)
theorem v_events {l : List Event} (h : WfV E (.slice (.st 6)) l) : l.length ≤ 9223372036854775807 ∧ ∀ x, x ∈ l → WEvent x := by
  have h0 := h 0 ⟨.slice (.st 6), l⟩ rfl
  cases h0 with
  | slice _ _ hl h =>
    refine ⟨Nat.le_trans hl maxLen_le, fun x hx => ?_⟩
    obtain ⟨i, hi⟩ := List.getElem?_of_mem hx
    exact wf_event (h i x hi)

/-- Arguments, one by one. -/
theorem args1 {a : Ty} {cs : List (Cell S)} (h : ArgsOK E [a] cs) : ∃ x, cs = [⟨a, x⟩] ∧ WfV E a x := by
  obtain ⟨h1, h2⟩ := h
  obtain ⟨x, r1, rfl, q1⟩ := cut h1
  obtain rfl := cutN q1
  exact ⟨x, rfl, h2 ⟨a, x⟩ (by simp)⟩
theorem args2 {a b : Ty} {cs : List (Cell S)} (h : ArgsOK E [a, b] cs) : ∃ x y, cs = [⟨a, x⟩, ⟨b, y⟩] ∧ WfV E a x ∧ WfV E b y := by
  obtain ⟨h1, h2⟩ := h
  obtain ⟨x, r1, rfl, q1⟩ := cut h1
  obtain ⟨y, r2, rfl, q2⟩ := cut q1
  obtain rfl := cutN q2
  exact ⟨x, y, rfl, h2 ⟨a, x⟩ (by simp), h2 ⟨b, y⟩ (by simp)⟩
theorem args3 {a b c : Ty} {cs : List (Cell S)} (h : ArgsOK E [a, b, c] cs) : ∃ x y z, cs = [⟨a, x⟩, ⟨b, y⟩, ⟨c, z⟩] ∧ WfV E a x ∧ WfV E b y ∧ WfV E c z := by
  obtain ⟨h1, h2⟩ := h
  obtain ⟨x, r1, rfl, q1⟩ := cut h1
  obtain ⟨y, r2, rfl, q2⟩ := cut q1
  obtain ⟨z, r3, rfl, q3⟩ := cut q2
  obtain rfl := cutN q3
  exact ⟨x, y, z, rfl, h2 ⟨a, x⟩ (by simp), h2 ⟨b, y⟩ (by simp), h2 ⟨c, z⟩ (by simp)⟩
theorem args4 {a b c d : Ty} {cs : List (Cell S)} (h : ArgsOK E [a, b, c, d] cs) : ∃ x y z u, cs = [⟨a, x⟩, ⟨b, y⟩, ⟨c, z⟩, ⟨d, u⟩] ∧ WfV E a x ∧ WfV E b y ∧ WfV E c z ∧ WfV E d u := by
  obtain ⟨h1, h2⟩ := h
  obtain ⟨x, r1, rfl, q1⟩ := cut h1
  obtain ⟨y, r2, rfl, q2⟩ := cut q1
  obtain ⟨z, r3, rfl, q3⟩ := cut q2
  obtain ⟨u, r4, rfl, q4⟩ := cut q3
  obtain rfl := cutN q4
  exact ⟨x, y, z, u, rfl, h2 ⟨a, x⟩ (by simp), h2 ⟨b, y⟩ (by simp), h2 ⟨c, z⟩ (by simp), h2 ⟨d, u⟩ (by simp)⟩
theorem args5 {a b c d e : Ty} {cs : List (Cell S)} (h : ArgsOK E [a, b, c, d, e] cs) : ∃ x y z u v, cs = [⟨a, x⟩, ⟨b, y⟩, ⟨c, z⟩, ⟨d, u⟩, ⟨e, v⟩] ∧ WfV E a x ∧ WfV E b y ∧ WfV E c z ∧ WfV E d u ∧ WfV E e v := by
  obtain ⟨h1, h2⟩ := h
  obtain ⟨x, r1, rfl, q1⟩ := cut h1
  obtain ⟨y, r2, rfl, q2⟩ := cut q1
  obtain ⟨z, r3, rfl, q3⟩ := cut q2
  obtain ⟨u, r4, rfl, q4⟩ := cut q3
  obtain ⟨v, r5, rfl, q5⟩ := cut q4
  obtain rfl := cutN q5
  exact ⟨x, y, z, u, v, rfl, h2 ⟨a, x⟩ (by simp), h2 ⟨b, y⟩ (by simp), h2 ⟨c, z⟩ (by simp), h2 ⟨d, u⟩ (by simp), h2 ⟨e, v⟩ (by simp)⟩
theorem as_self {t : Ty} (x : den S t) : Cell.as (⟨t, x⟩ : Cell S) t = some x := by simp [Cell.as]
theorem run1_eq {R : Type} {a : Ty} (F : den S a → Option R) (x0 : den S a) : run1 a F [⟨a, x0⟩] = F x0 := by simp [run1, as_self]
theorem run2_eq {R : Type} {a b : Ty} (F : den S a → den S b → Option R) (x0 : den S a) (x1 : den S b) : run2 a b F [⟨a, x0⟩, ⟨b, x1⟩] = F x0 x1 := by simp [run2, as_self]
theorem run3_eq {R : Type} {a b c : Ty} (F : den S a → den S b → den S c → Option R) (x0 : den S a) (x1 : den S b) (x2 : den S c) : run3 a b c F [⟨a, x0⟩, ⟨b, x1⟩, ⟨c, x2⟩] = F x0 x1 x2 := by simp [run3, as_self]
theorem run4_eq {R : Type} {a b c d : Ty} (F : den S a → den S b → den S c → den S d → Option R) (x0 : den S a) (x1 : den S b) (x2 : den S c) (x3 : den S d) : run4 a b c d F [⟨a, x0⟩, ⟨b, x1⟩, ⟨c, x2⟩, ⟨d, x3⟩] = F x0 x1 x2 x3 := by simp [run4, as_self]
theorem run5_eq {R : Type} {a b c d e : Ty} (F : den S a → den S b → den S c → den S d → den S e → Option R) (x0 : den S a) (x1 : den S b) (x2 : den S c) (x3 : den S d) (x4 : den S e) : run5 a b c d e F [⟨a, x0⟩, ⟨b, x1⟩, ⟨c, x2⟩, ⟨d, x3⟩, ⟨e, x4⟩] = F x0 x1 x2 x3 x4 := by simp [run5, as_self]
theorem run6_eq {R : Type} {a b c d e f : Ty} (F : den S a → den S b → den S c → den S d → den S e → den S f → Option R) (x0 : den S a) (x1 : den S b) (x2 : den S c) (x3 : den S d) (x4 : den S e) (x5 : den S f) : run6 a b c d e f F [⟨a, x0⟩, ⟨b, x1⟩, ⟨c, x2⟩, ⟨d, x3⟩, ⟨e, x4⟩, ⟨f, x5⟩] = F x0 x1 x2 x3 x4 x5 := by simp [run6, as_self]
end
end Go.Lv.Ld
