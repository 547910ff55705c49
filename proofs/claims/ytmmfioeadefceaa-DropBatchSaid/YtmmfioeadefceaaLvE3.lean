import Derived.Test.YtmmfioeadefceaaLvE2
import Derived.Test.YtmmfioeadefceaaLvX1
namespace Go.Lv.Ld
set_option linter.all false
noncomputable section
open Go Go.Lv Go.IntWalk
/-- What becomes of the cells at an offset that is given back, and what is told. -/
def bw (m : List Int) (k : Int) : List Int := if hs (gt m (k / 32)) (k % 32) then pt m (k / 32) (dw (gt m (k / 32)) (k % 32)) else m
def be (m : List Int) (k : Int) : Int := if hs (gt m (k / 32)) (k % 32) then 0 else 6
def bws (m : List Int) : List Int → List Int
  | [] => m
  | k :: r => bws (bw m k) r
def bes (m : List Int) : List Int → List Int
  | [] => []
  | k :: r => be m k :: bes (bw m k) r
theorem bes_len (m : List Int) : ∀ ks, (bes m ks).length = ks.length
  | [] => rfl
  | k :: r => by simp only [bes, List.length_cons, bes_len (bw m k) r]
theorem bw_fit {c : Conf} {m : List Int} (h : Fit c m) (k : Int) : Fit c (bw m k) := by
  unfold bw; split
  · exact h.pt _ (dw_u _ _)
  · exact h
theorem bws_fit {c : Conf} : ∀ (ks : List Int) {m : List Int}, Fit c m → Fit c (bws m ks)
  | [], _, h => h
  | k :: r, _, h => bws_fit r (bw_fit h k)
def kl (c : Conf) (offs : List Int) : List Int := offs.map fun x => x % many c.block
theorem DB_l2 (c : Conf) (offs : List Int) (ho : ∀ x, x ∈ offs → 0 ≤ x ∧ x ≤ 65535) (few : offs.length ≤ 20) (m : List Int) (o : Oq) (small : m.length ≤ 100000) : ∀ (d n : Nat) (i : Int) (w : List Int), d < n → 0 ≤ i → ((offs.length : Int) - i).toNat = d → i ≤ offs.length → Fit c w →
    o.answer.errs.drop i.toNat = bes w ((kl c offs).drop i.toNat) → m = bws w ((kl c offs).drop i.toNat) → lodgerlaw14_DropBatch_l2 n offs (many c.block) m i o w = some true := by
  intro d
  induction d with
  | zero =>
    intro n i w hn h1 h2 h3 fit he hm
    obtain ⟨q, rfl⟩ : ∃ m, n = m + 1 := ⟨n - 1, by omega⟩
    have e0 : (kl c offs).drop i.toNat = [] := List.drop_eq_nil_of_le (by simp only [kl, List.length_map]; omega)
    rw [e0] at hm
    rw [su2_lodgerlaw14_DropBatch]
    unfold lodgerlaw14_DropBatch_s2
    refine cf (decide_eq_false (by omega)) ?_
    refine bnd ((lodgerref02_Same_eq m w (by omega)).trans (by rw [hm]; simp [bws])) (?_ : some true = _)
    rfl
  | succ d ih =>
    intro n i w hn h1 h2 h3 fit he hm
    obtain ⟨q, rfl⟩ : ∃ m, n = m + 1 := ⟨n - 1, by omega⟩
    have hi : i < (offs.length : Int) := by omega
    have hb := many_b fit.ok.blk
    have hL := leaves_b hb.1 hb.2
    have hkl : (kl c offs).length = offs.length := by simp [kl]
    have hx := ho _ (gt_mem h1 hi)
    have hgk : gt (kl c offs) i = gt offs i % many c.block := by
      have a := get?_gt (l := kl c offs) h1 (by omega)
      have b := get?_gt (l := offs) h1 hi
      unfold kl at a
      rw [List.getElem?_map, b] at a
      simpa [kl] using a.symm
    have ed : (kl c offs).drop i.toNat = gt offs i % many c.block :: (kl c offs).drop (i + 1).toNat := by rw [drop_cons h1 (by omega), hgk]
    rw [ed] at he hm
    have k0 : 0 ≤ gt offs i % many c.block := Int.emod_nonneg _ (by omega)
    have k1 : gt offs i % many c.block < many c.block := Int.emod_lt_of_pos _ (by omega)
    have hg := geti_eq h1 hi
    have e1 : (IntKind.i64.wrap (gt offs i)).tmod (many c.block) = gt offs i % many c.block := by rw [i64_in _ (by omega), Int.tmod_eq_emod_of_nonneg hx.1]
    have hn0 : (many c.block == 0) = false := beq_eq_false_iff_ne.2 (by omega)
    rw [su2_lodgerlaw14_DropBatch]
    unfold lodgerlaw14_DropBatch_s2
    rw [i64_in (i + 1) (by omega)]
    refine ct (decide_eq_true hi) ?_
    refine bnd hg ?_
    refine cf hn0 ?_
    rw [e1]
    generalize gt offs i % many c.block = k at *
    rw [i64_quo k 32 (by omega), Int.tmod_eq_emod_of_nonneg k0]
    obtain ⟨l1, l2, l3⟩ := fit.leaf (i := k / 32) (by omega) (by omega)
    have hin : decide (0 ≤ k / 32 ∧ k / 32 < (w.length : Int)) = true := decide_eq_true ⟨by omega, l1⟩
    have hel : i < (o.answer.errs.length : Int) := by
      have := congrArg List.length he
      rw [List.length_drop, show bes w (k :: (kl c offs).drop (i + 1).toNat) = be w k :: bes (bw w k) ((kl c offs).drop (i + 1).toNat) from rfl, List.length_cons] at this
      omega
    rw [drop_cons h1 hel, show bes w (k :: (kl c offs).drop (i + 1).toNat) = be w k :: bes (bw w k) ((kl c offs).drop (i + 1).toNat) from rfl, List.cons.injEq] at he
    have ih := ih q (i + 1) (bw w k) (by omega) (by omega) (by omega) (by omega) (bw_fit fit k) he.2 hm
    have hge := geti_eq h1 hel
    refine ct hin ?_
    refine bnd (get?_gt (by omega) l1) ?_
    refine bnd (rHas_eq l3 (by omega) (by omega)) ?_
    refine bnd hge ?_
    have he1 := he.1
    unfold be at he1
    unfold bw at ih
    cases hh : hs (gt w (k / 32)) (k % 32)
    · rw [hh, if_neg Bool.false_ne_true] at he1 ih
      refine cf (by rw [he1]; rfl) ?_
      refine ct rfl ?_
      refine bnd hge ?_
      refine cf (bne_eq_false_iff_eq.2 he1) ?_
      exact cf rfl ih
    · rw [hh, if_pos rfl] at he1 ih
      refine cf (by rw [he1]; rfl) ?_
      refine cf rfl ?_
      refine ct rfl ?_
      refine ct hin ?_
      refine bnd (get?_gt (by omega) l1) ?_
      refine bnd (Drop_eq l3 (by omega) (by omega)) ?_
      refine ct hin ?_
      refine bnd (get?_gt (by omega) l1) ?_
      rw [pt_set (by omega)]
      exact ih
end
end Go.Lv.Ld
