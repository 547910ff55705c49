import Derived.Test.YtmmfioeadefceaaLvE4
namespace Go.Lv.Ld
set_option linter.all false
noncomputable section
open Go Go.Lv Go.IntWalk
theorem top_le {b : Block} (h : OKb b) (d : Divs b) (ub : U32 b.base) : b.base + many b ≤ 4294967296 := by
  have hm := many_b h
  obtain ⟨h1, h2⟩ := h
  unfold Divs at d
  unfold U32 at ub
  have e : many b * 2 ^ b.pre.toNat = 4294967296 := by
    unfold many
    rw [← Int.pow_add, show (32 - b.pre).toNat + b.pre.toNat = 32 by omega]
    decide
  obtain ⟨q, hq⟩ := Int.dvd_of_emod_eq_zero d
  generalize many b = m at *
  generalize (2 : Int) ^ b.pre.toNat = p at *
  have hlt : q < p := by
    refine Int.not_le.1 fun hc => ?_
    have := Int.mul_le_mul_of_nonneg_left hc (show 0 ≤ m by omega)
    omega
  have := Int.mul_le_mul_of_nonneg_left (show q + 1 ≤ p by omega) (show 0 ≤ m by omega)
  rw [Int.mul_add] at this
  omega
theorem off_ad {c : Conf} (ok : OKc c) (ub : U32 c.block.base) {k : Int} (k0 : 0 ≤ k) (k1 : k < many c.block) : off c.block (ad c k) = k ∧ U32 (ad c k) := by
  have ht := top_le ok.blk ok.base ub
  have hm := many_b ok.blk
  unfold U32 at *
  have e : ad c k = c.block.base + k := by unfold ad; rw [u32_in k (by omega), u32_in _ (by omega)]
  rw [e]
  refine ⟨?_, by omega, by omega⟩
  unfold off
  rw [if_pos (show ins c.block (c.block.base + k) by unfold ins; omega)]
  omega
theorem goes_ob {c : Conf} {as : List Int} {j k : Int} {es : List Int} (h : j + 1 < (as.length : Int)) (k' : Int) (e : off c.block (gt as (j + 1)) = k') : goes c (ob as j k es) = ob as (j + 1) k' es := by
  unfold goes
  rw [if_pos ⟨rfl, h⟩]
  subst e
  rfl
theorem goes_oe {c : Conf} {as : List Int} {j k : Int} {es : List Int} (h : ¬ j + 1 < (as.length : Int)) : goes c (ob as j k es) = { ob as j k es with phase := 0 } := by
  unfold goes
  rw [if_neg (fun q => h q.2)]
  rfl
theorem DB_l1 {c : Conf} {offs as w : List Int} (ub : U32 c.block.base) (ua : ∀ x, x ∈ as → U32 x) (few : offs.length ≤ 20) (hlen : as.length = offs.length)
    (hk : ∀ j, 0 ≤ j → j < (offs.length : Int) → 0 ≤ gt (kl c offs) j ∧ gt (kl c offs) j < many c.block ∧ off c.block (gt as j) = gt (kl c offs) j) : ∀ (d n : Nat) (j s : Int) (m es : List Int), 3 * d + 100 < n → 0 ≤ j → j < (offs.length : Int) → ((offs.length : Int) - j).toNat = d + 1 → 0 ≤ s → s ≤ 2 * j → (es.length : Int) = j → Fit c m →
    (∀ (n' : Nat) (o' : Oq), 40 < n' → o'.answer.errs = es ++ bes m ((kl c offs).drop j.toNat) → lodgerlaw14_DropBatch_l2 n' offs (many c.block) (bws m ((kl c offs).drop j.toNat)) 0 o' w = some true) →
    lodgerlaw14_DropBatch_l1 n offs (many c.block) m j s c (ob as j (gt (kl c offs) j) es) w = some true := by
  have hkl : (kl c offs).length = offs.length := by simp [kl]
  intro d
  induction d with
  | zero =>
    intro n j s m es hn h1 h2 h3 s0 s1 le fit hres
    obtain ⟨q, rfl⟩ : ∃ q, n = q + 1 + 1 := ⟨n - 2, by omega⟩
    obtain ⟨c0, c1, c2⟩ := hk j h1 h2
    obtain ⟨n', s', a1, a2, a3, a4⟩ := DB_step (offs := offs) (w := w) (N := many c.block) (ef := j) (s := s) (es := es) fit ub ua h1 (by omega) c0 c1 (by omega) h1 (by omega) s0 (by omega) q
    rw [a4, goes_oe (by omega)]
    have ed : (kl c offs).drop j.toNat = [gt (kl c offs) j] := by rw [drop_cons h1 (by omega), List.drop_eq_nil_of_le (by omega)]
    rw [ed] at hres
    obtain ⟨n2, rfl⟩ : ∃ n2, n' = n2 + 1 := ⟨n' - 1, by omega⟩
    have hr := hres n2 { ob as j (gt (kl c offs) j) (es ++ [be m (gt (kl c offs) j)]) with phase := 0 } (by omega) rfl
    rw [su1_lodgerlaw14_DropBatch]
    unfold lodgerlaw14_DropBatch_s1
    refine ct (decide_eq_true (by omega)) ?_
    refine cf rfl ?_
    refine cf rfl ?_
    refine cf rfl ?_
    refine cf (bne_eq_false_iff_eq.2 (by omega)) ?_
    refine cf (bne_eq_false_iff_eq.2 (show (((es ++ [be m (gt (kl c offs) j)]).length : Nat) : Int) = _ by simp only [List.length_append, List.length_cons, List.length_nil]; omega)) ?_
    exact hr
  | succ d ih =>
    intro n j s m es hn h1 h2 h3 s0 s1 le fit hres
    obtain ⟨q, rfl⟩ : ∃ q, n = q + 1 + 1 := ⟨n - 2, by omega⟩
    obtain ⟨c0, c1, c2⟩ := hk j h1 h2
    obtain ⟨d0, d1, d2⟩ := hk (j + 1) (by omega) (by omega)
    obtain ⟨n', s', a1, a2, a3, a4⟩ := DB_step (offs := offs) (w := w) (N := many c.block) (ef := j) (s := s) (es := es) fit ub ua h1 (by omega) c0 c1 (by omega) h1 (by omega) s0 (by omega) q
    rw [a4, goes_ob (by omega) _ d2]
    refine ih n' (j + 1) s' (bw m (gt (kl c offs) j)) (es ++ [be m (gt (kl c offs) j)]) (by omega) (by omega) (by omega) (by omega) (by omega) (by omega) (by simp only [List.length_append, List.length_cons, List.length_nil]; omega) (bw_fit fit _) fun n2 o2 g1 g2 => ?_
    have ed : (kl c offs).drop j.toNat = gt (kl c offs) j :: (kl c offs).drop (j + 1).toNat := drop_cons h1 (by omega)
    rw [ed] at hres
    refine hres n2 o2 g1 ?_
    rw [g2, List.append_assoc]
    rfl
end
end Go.Lv.Ld
