import Derived.Test.YtonphdpgepnenaaDoorLvRow
import Derived.Test.YtonphdpgepnenaaDoorLvKit
namespace Go.Lv.Ld
set_option linter.all false
open Go Go.Lv Go.IntWalk
set_option linter.unusedVariables false
/-- Arguments, one by one. -/
theorem args1 {a : Ty} {cs : List (Cell S)} (h : ArgsOK E [a] cs) : ∃ x, cs = [⟨a, x⟩] ∧ WfV E a x := by
  obtain ⟨h1, h2⟩ := h
  obtain ⟨x, r1, rfl, q1⟩ := cut h1
  obtain rfl := cutN q1
  exact ⟨x, rfl, h2 ⟨a, x⟩ (by simp)⟩
theorem args2 {a b : Ty} {cs : List (Cell S)} (h : ArgsOK E [a, b] cs) : ∃ x y, cs = [⟨a, x⟩, ⟨b, y⟩] ∧ WfV E a x ∧ WfV E b y := by
  obtain ⟨h1, h2⟩ := h
  obtain ⟨x, r1, rfl, q1⟩ := cut h1
  obtain ⟨y, r2, rfl, q2⟩ := cut q1
  obtain rfl := cutN q2
  exact ⟨x, y, rfl, h2 ⟨a, x⟩ (by simp), h2 ⟨b, y⟩ (by simp)⟩
theorem args3 {a b c : Ty} {cs : List (Cell S)} (h : ArgsOK E [a, b, c] cs) : ∃ x y z, cs = [⟨a, x⟩, ⟨b, y⟩, ⟨c, z⟩] ∧ WfV E a x ∧ WfV E b y ∧ WfV E c z := by
  obtain ⟨h1, h2⟩ := h
  obtain ⟨x, r1, rfl, q1⟩ := cut h1
  obtain ⟨y, r2, rfl, q2⟩ := cut q1
  obtain ⟨z, r3, rfl, q3⟩ := cut q2
  obtain rfl := cutN q3
  exact ⟨x, y, z, rfl, h2 ⟨a, x⟩ (by simp), h2 ⟨b, y⟩ (by simp), h2 ⟨c, z⟩ (by simp)⟩
theorem args4 {a b c d : Ty} {cs : List (Cell S)} (h : ArgsOK E [a, b, c, d] cs) : ∃ x y z u, cs = [⟨a, x⟩, ⟨b, y⟩, ⟨c, z⟩, ⟨d, u⟩] ∧ WfV E a x ∧ WfV E b y ∧ WfV E c z ∧ WfV E d u := by
  obtain ⟨h1, h2⟩ := h
  obtain ⟨x, r1, rfl, q1⟩ := cut h1
  obtain ⟨y, r2, rfl, q2⟩ := cut q1
  obtain ⟨z, r3, rfl, q3⟩ := cut q2
  obtain ⟨u, r4, rfl, q4⟩ := cut q3
  obtain rfl := cutN q4
  exact ⟨x, y, z, u, rfl, h2 ⟨a, x⟩ (by simp), h2 ⟨b, y⟩ (by simp), h2 ⟨c, z⟩ (by simp), h2 ⟨d, u⟩ (by simp)⟩
theorem args5 {a b c d e : Ty} {cs : List (Cell S)} (h : ArgsOK E [a, b, c, d, e] cs) : ∃ x y z u v, cs = [⟨a, x⟩, ⟨b, y⟩, ⟨c, z⟩, ⟨d, u⟩, ⟨e, v⟩] ∧ WfV E a x ∧ WfV E b y ∧ WfV E c z ∧ WfV E d u ∧ WfV E e v := by
  obtain ⟨h1, h2⟩ := h
  obtain ⟨x, r1, rfl, q1⟩ := cut h1
  obtain ⟨y, r2, rfl, q2⟩ := cut q1
  obtain ⟨z, r3, rfl, q3⟩ := cut q2
  obtain ⟨u, r4, rfl, q4⟩ := cut q3
  obtain ⟨v, r5, rfl, q5⟩ := cut q4
  obtain rfl := cutN q5
  exact ⟨x, y, z, u, v, rfl, h2 ⟨a, x⟩ (by simp), h2 ⟨b, y⟩ (by simp), h2 ⟨c, z⟩ (by simp), h2 ⟨d, u⟩ (by simp), h2 ⟨e, v⟩ (by simp)⟩
theorem as_self {t : Ty} (x : den S t) : Cell.as (⟨t, x⟩ : Cell S) t = some x := by simp [Cell.as]
theorem run1_eq {R : Type} {a : Ty} (F : den S a → Option R) (x0 : den S a) : run1 a F [⟨a, x0⟩] = F x0 := by simp [run1, as_self]
theorem run2_eq {R : Type} {a b : Ty} (F : den S a → den S b → Option R) (x0 : den S a) (x1 : den S b) : run2 a b F [⟨a, x0⟩, ⟨b, x1⟩] = F x0 x1 := by simp [run2, as_self]
theorem run3_eq {R : Type} {a b c : Ty} (F : den S a → den S b → den S c → Option R) (x0 : den S a) (x1 : den S b) (x2 : den S c) : run3 a b c F [⟨a, x0⟩, ⟨b, x1⟩, ⟨c, x2⟩] = F x0 x1 x2 := by simp [run3, as_self]
theorem run4_eq {R : Type} {a b c d : Ty} (F : den S a → den S b → den S c → den S d → Option R) (x0 : den S a) (x1 : den S b) (x2 : den S c) (x3 : den S d) : run4 a b c d F [⟨a, x0⟩, ⟨b, x1⟩, ⟨c, x2⟩, ⟨d, x3⟩] = F x0 x1 x2 x3 := by simp [run4, as_self]
theorem run5_eq {R : Type} {a b c d e : Ty} (F : den S a → den S b → den S c → den S d → den S e → Option R) (x0 : den S a) (x1 : den S b) (x2 : den S c) (x3 : den S d) (x4 : den S e) : run5 a b c d e F [⟨a, x0⟩, ⟨b, x1⟩, ⟨c, x2⟩, ⟨d, x3⟩, ⟨e, x4⟩] = F x0 x1 x2 x3 x4 := by simp [run5, as_self]
theorem run6_eq {R : Type} {a b c d e f : Ty} (F : den S a → den S b → den S c → den S d → den S e → den S f → Option R) (x0 : den S a) (x1 : den S b) (x2 : den S c) (x3 : den S d) (x4 : den S e) (x5 : den S f) : run6 a b c d e f F [⟨a, x0⟩, ⟨b, x1⟩, ⟨c, x2⟩, ⟨d, x3⟩, ⟨e, x4⟩, ⟨f, x5⟩] = F x0 x1 x2 x3 x4 x5 := by simp [run6, as_self]
end Go.Lv.Ld
