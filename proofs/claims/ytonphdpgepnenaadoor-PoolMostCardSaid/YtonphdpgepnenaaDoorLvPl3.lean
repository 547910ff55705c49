import Derived.Test.YtonphdpgepnenaaDoorLvPl2
namespace Go.Lv.Ld
set_option linter.all false
noncomputable section
open Go Go.Lv Go.IntWalk

theorem mulb {a b A B : Int} (h0 : 0 ≤ a) (h1 : a ≤ A) (h2 : 0 ≤ b) (h3 : b ≤ B) : 0 ≤ a * b ∧ a * b ≤ A * B := ⟨Int.mul_nonneg h0 h2, Int.mul_le_mul h1 h3 h2 (Int.le_trans h0 h1)⟩
/-- How many steps a right request takes at most. -/
def mo (c : Conf) (a : Ask) : Int := if ck c a ≠ 0 then 0 else if a.kind = 1 then c.shards * (tops (many c.block) + 3) + 2 * leaves (many c.block) + 6 else if a.kind = 2 ∨ a.kind = 5 then 6 else if a.kind = 3 then 6 else if a.kind = 4 then 6 * (a.addrs.length : Int) else if a.kind = 6 then c.tries * 2 * leaves (many c.block) else 0
theorem Most_eq {c : Conf} {a : Ask} (ok : OKc c) (ub : U32 c.block.base) (ha : WAsk a) (few : a.addrs.length ≤ 100) : pool_Most c a = some (mo c a) := by
  have hc := ask_Check_eq ok ub ha few
  have hmb := many_b ok.blk
  have hl := leaves_b hmb.1 hmb.2
  have ht := tops_b hmb.1 hmb.2
  have hs := ok.sh
  have htr := ok.tr
  have nk : ∀ k : Int, a.kind ≠ k → ieq a.kind k = false := fun k h => ieq_ne h
  have yk : ∀ k : Int, a.kind = k → ieq a.kind k = true := fun k h => ieq_iff.2 h
  unfold pool_Most mo
  by_cases hk : ck c a = 0
  · rw [if_neg (by simp [hk])]
    have hb : (ck c a == 0) = true := beq_iff_eq.2 hk
    by_cases k1 : a.kind = 1
    · rw [if_pos k1]
      refine ct (yk _ k1) (bnd hc (ct hb (bnd (Many_eq ok.blk) (bnd (Tops_eq hmb.1 hmb.2) (bnd (Leaves_eq (by omega) hmb.2) ?_)))))
      have b1 := mulb (a := c.shards) (b := tops (many c.block) + 3) (A := 64) (B := 35) (by omega) (by omega) (by omega) (by omega)
      rw [i64_in (tops (many c.block) + 3) (by omega), i64_in (c.shards * (tops (many c.block) + 3)) (by omega), i64_in (2 * leaves (many c.block)) (by omega), i64_in (c.shards * (tops (many c.block) + 3) + 2 * leaves (many c.block)) (by omega), i64_in _ (by omega)]
    rw [if_neg k1]
    refine cf (nk _ k1) ?_
    by_cases k2 : a.kind = 2
    · rw [if_pos (.inl k2)]
      exact ct (yk _ k2) (bnd hc (ct hb rfl))
    refine cf (nk _ k2) ?_
    by_cases k3 : a.kind = 3
    · rw [if_neg (by omega), if_pos k3]
      refine ct (yk _ k3) (bnd hc (ct hb (bnd (Names_eq few) ?_)))
      have : nam a = [a.addr] := if_pos (show one a from .inr (.inl k3))
      rw [this]
      rfl
    refine cf (nk _ k3) ?_
    by_cases k4 : a.kind = 4
    · rw [if_neg (by omega), if_neg k3, if_pos k4]
      refine ct (yk _ k4) (bnd hc (ct hb (bnd (Names_eq few) ?_)))
      have : nam a = a.addrs := (if_neg (show ¬ one a by unfold one; omega)).trans (if_pos k4)
      rw [this, i64_in _ (by omega)]
    refine cf (nk _ k4) ?_
    by_cases k5 : a.kind = 5
    · rw [if_pos (.inr k5)]
      exact ct (yk _ k5) (bnd hc (ct hb rfl))
    refine cf (nk _ k5) ?_
    rw [if_neg (by omega), if_neg k3, if_neg k4]
    by_cases k6 : a.kind = 6
    · rw [if_pos k6]
      refine ct (yk _ k6) (bnd hc (ct hb (bnd (Many_eq ok.blk) (bnd (Leaves_eq (by omega) hmb.2) ?_))))
      have b1 := mulb (a := c.tries * 2) (b := leaves (many c.block)) (A := 16) (B := 2048) (by omega) (by omega) (by omega) (by omega)
      rw [i64_in (c.tries * 2) (by omega), i64_in _ (by omega)]
    · rw [if_neg k6]
      exact cf (nk _ k6) rfl
  · rw [if_pos hk]
    have hb : (ck c a == 0) = false := beq_eq_false_iff_ne.2 hk
    by_cases k1 : a.kind = 1
    · exact ct (yk _ k1) (bnd hc (cf hb rfl))
    refine cf (nk _ k1) ?_
    by_cases k2 : a.kind = 2
    · exact ct (yk _ k2) (bnd hc (cf hb rfl))
    refine cf (nk _ k2) ?_
    by_cases k3 : a.kind = 3
    · exact ct (yk _ k3) (bnd hc (cf hb rfl))
    refine cf (nk _ k3) ?_
    by_cases k4 : a.kind = 4
    · exact ct (yk _ k4) (bnd hc (cf hb rfl))
    refine cf (nk _ k4) ?_
    by_cases k5 : a.kind = 5
    · exact ct (yk _ k5) (bnd hc (cf hb rfl))
    refine cf (nk _ k5) ?_
    by_cases k6 : a.kind = 6
    · exact ct (yk _ k6) (bnd hc (cf hb rfl))
    exact cf (nk _ k6) rfl
theorem ck_kind {c : Conf} {a : Ask} (h : ck c a = 0) : 1 ≤ a.kind ∧ a.kind ≤ 7 := by
  unfold ck at h
  split at h
  · cases h
  · omega
theorem ck_four {c : Conf} {a : Ask} (h : ck c a = 0) (k : a.kind = 4) : 0 < a.addrs.length ∧ a.addrs.length ≤ 64 ∧ chk c a.addrs [] = 0 := by
  unfold ck at h
  split at h
  · cases h
  split at h
  · cases h
  split at h
  · cases h
  rename_i h1 h2 h3
  have e : nam a = a.addrs := (if_neg (show ¬ one a by unfold one; omega)).trans (if_pos k)
  rw [e] at h
  exact ⟨Nat.pos_of_ne_zero fun e => h2 ⟨k, e⟩, Nat.le_of_not_lt fun e => h3 ⟨k, e⟩, h⟩
theorem chk_all {c : Conf} : ∀ (l s : List Int), chk c l s = 0 → ∀ x, x ∈ l → fnd c x = 0
  | [], _, _, x, hx => by cases hx
  | y :: r, s, h, x, hx => by
    unfold chk at h
    split at h
    · rename_i h1; exact absurd h h1
    · rename_i h1
      split at h
      · cases h
      · rcases List.mem_cons.1 hx with e | hx
        · rw [e]; exact Decidable.not_not.1 h1
        · exact chk_all r _ h x hx
theorem mo_rel {c : Conf} {x : Int} (h : fnd c x = 0) : mo c ⟨3, x, []⟩ = 6 := by
  have : ck c ⟨3, x, []⟩ = 0 := by
    unfold ck
    rw [if_neg (show ¬ ((3 : Int) < 1 ∨ 7 < (3 : Int)) by decide), if_neg (fun e => absurd (show (3 : Int) = 4 from e.1) (by decide)), if_neg (fun e => absurd (show (3 : Int) = 4 from e.1) (by decide))]
    have : nam ⟨3, x, []⟩ = [x] := if_pos (show one _ from .inr (.inl rfl))
    rw [this]
    unfold chk
    rw [if_neg (by simp [h]), if_neg List.not_mem_nil]
    rfl
  unfold mo
  rw [if_neg (by simp [this]), if_neg (by show ¬ ((3 : Int) = 1); decide), if_neg (by show ¬ ((3 : Int) = 2 ∨ (3 : Int) = 5); decide), if_pos rfl]
/-- More shards, more tries. -/
def mor (c : Conf) : Conf := { c with shards := (mm false 64 (IntKind.wrap .i64 (c.shards + 1))), tries := (mm false 8 (IntKind.wrap .i64 (c.tries + 1))) }
theorem mor_eq {c : Conf} (ok : OKc c) : (mor c).shards = (if c.shards + 1 < 64 then c.shards + 1 else 64) ∧ (mor c).tries = (if c.tries + 1 < 8 then c.tries + 1 else 8) := by
  have := ok.sh; have := ok.tr
  unfold mor mm
  simp only [Bool.false_eq_true, if_false]
  rw [i64_in _ (by omega), i64_in _ (by omega)]
  exact ⟨rfl, rfl⟩
theorem mor_ok {c : Conf} (ok : OKc c) : OKc (mor c) := by
  have h1 := ok.sh; have h2 := ok.tr
  have e := mor_eq ok
  refine ⟨ok.blk, ok.base, ok.few, ok.held, ?_, ok.wo, ok.qu, ?_⟩
  · rw [e.1]; split <;> omega
  · rw [e.2]; split <;> omega
theorem chk_mor (c : Conf) : ∀ (l s : List Int), chk (mor c) l s = chk c l s
  | [], _ => rfl
  | x :: r, s => by
    unfold chk
    rw [chk_mor c r]
    rfl
theorem ck_mor (c : Conf) (a : Ask) : ck (mor c) a = ck c a := by
  unfold ck; rw [chk_mor]
theorem mor_ge {c : Conf} {a : Ask} (ok : OKc c) : mo c a ≤ mo (mor c) a := by
  have hmb := many_b ok.blk
  have hl := leaves_b hmb.1 hmb.2
  have ht := tops_b hmb.1 hmb.2
  have h1 := ok.sh; have h2 := ok.tr
  have e := mor_eq ok
  have hck : ck (mor c) a = ck c a := ck_mor c a
  have hb : many (mor c).block = many c.block := rfl
  have hsh : c.shards ≤ (mor c).shards := by rw [e.1]; split <;> omega
  have htr : c.tries ≤ (mor c).tries := by rw [e.2]; split <;> omega
  unfold mo
  rw [hck, hb]
  split
  · exact Int.le_refl _
  split
  · have := Int.mul_le_mul_of_nonneg_right hsh (show 0 ≤ tops (many c.block) + 3 by omega)
    omega
  split
  · exact Int.le_refl _
  split
  · exact Int.le_refl _
  split
  · exact Int.le_refl _
  split
  · have := Int.mul_le_mul_of_nonneg_right (show c.tries * 2 ≤ (mor c).tries * 2 by omega) (show 0 ≤ leaves (many c.block) by omega)
    exact this
  · exact Int.le_refl _
theorem mo_pos {c : Conf} {a : Ask} (ok : OKc c) : 0 ≤ mo c a ∧ (mo c a = 0 ↔ (ck c a ≠ 0 ∨ a.kind = 7)) := by
  have hmb := many_b ok.blk
  have hl := leaves_b hmb.1 hmb.2
  have ht := tops_b hmb.1 hmb.2
  have h1 := ok.sh; have h2 := ok.tr
  unfold mo
  by_cases hk : ck c a = 0
  · rw [if_neg (by simp [hk])]
    have hkk := ck_kind hk
    by_cases k1 : a.kind = 1
    · rw [if_pos k1]
      have b1 := mulb (a := c.shards) (b := tops (many c.block) + 3) (A := 64) (B := 35) (by omega) (by omega) (by omega) (by omega)
      exact ⟨by omega, fun h => by omega, fun h => by omega⟩
    rw [if_neg k1]
    by_cases k2 : a.kind = 2 ∨ a.kind = 5
    · rw [if_pos k2]; exact ⟨by omega, fun h => by omega, fun h => by omega⟩
    rw [if_neg k2]
    by_cases k3 : a.kind = 3
    · rw [if_pos k3]; exact ⟨by omega, fun h => by omega, fun h => by omega⟩
    rw [if_neg k3]
    by_cases k4 : a.kind = 4
    · rw [if_pos k4]
      have := (ck_four hk k4).1
      exact ⟨by omega, fun h => by omega, fun h => by omega⟩
    rw [if_neg k4]
    by_cases k6 : a.kind = 6
    · rw [if_pos k6]
      have := mulb (a := 1) (b := 1) (A := c.tries * 2) (B := leaves (many c.block)) (by omega) (by omega) (by omega) (by omega)
      exact ⟨by omega, fun h => by omega, fun h => by omega⟩
    · rw [if_neg k6]
      exact ⟨by omega, fun _ => by omega, fun _ => rfl⟩
  · rw [if_pos hk]
    exact ⟨Int.le_refl _, fun _ => .inl hk, fun _ => rfl⟩
theorem rel_u {x : Int} (h : U32 x) : WAsk ⟨3, x, []⟩ := ⟨⟨by show (-9223372036854775808 : Int) ≤ 3; decide, by show (3 : Int) ≤ 9223372036854775807; decide⟩, h, ⟨Nat.zero_le _, fun _ h => by cases h⟩⟩
theorem PM_l (c : Conf) (a : Ask) (ok : OKc c) (ub : U32 c.block.base) (ha : WAsk a) (few : a.addrs.length ≤ 100) (w : Bool) (hw : a.kind = 4 → w = false → mo c a = 6 * (a.addrs.length : Int) ∧ ∀ x, x ∈ a.addrs → mo c ⟨3, x, []⟩ = 6) : ∀ (d n : Nat) (i s : Int), d < n → 0 ≤ i → ((a.addrs.length : Int) - i).toNat = d → i ≤ a.addrs.length → (w = false → s = 6 * i) →
    lodgerlaw21_PoolMost_l0 n (mo c a) w s i c a = some true := by
  have fin : ((pool_Most ({ c with shards := (mm false 64 (IntKind.wrap .i64 (c.shards + 1))), tries := (mm false 8 (IntKind.wrap .i64 (c.tries + 1))) } : Conf) a).bind fun r11 => some (decide (r11 ≥ mo c a))) = some true := by
    refine bnd (Most_eq (mor_ok ok) ub ha few) ?_
    exact congrArg some (decide_eq_true (mor_ge ok))
  intro d
  induction d with
  | zero =>
    intro n i s hn h1 h2 h3 hs
    obtain ⟨m, rfl⟩ : ∃ m, n = m + 1 := ⟨n - 1, by omega⟩
    rw [su0_lodgerlaw21_PoolMost]
    unfold lodgerlaw21_PoolMost_s0
    refine cf (decide_eq_false (by omega)) ?_
    by_cases k4 : a.kind = 4
    · refine ct (beq_iff_eq.2 k4) ?_
      cases w with
      | true => exact cf rfl fin
      | false =>
        have := (hw k4 rfl).1
        have hs := hs rfl
        refine ct rfl (cf ?_ fin)
        rw [this, hs, show i = (a.addrs.length : Int) by omega]
        simp
    · exact cf (beq_eq_false_iff_ne.2 k4) fin
  | succ d ih =>
    intro n i s hn h1 h2 h3 hs
    obtain ⟨m, rfl⟩ : ∃ m, n = m + 1 := ⟨n - 1, by omega⟩
    have hj : i < (a.addrs.length : Int) := by omega
    rw [su0_lodgerlaw21_PoolMost]
    unfold lodgerlaw21_PoolMost_s0
    refine ct (decide_eq_true hj) ?_
    by_cases k4 : a.kind = 4
    · refine ct (beq_iff_eq.2 k4) (bnd (geti_eq h1 hj) ?_)
      have hx := gt_mem h1 hj
      refine bnd (Most_eq ok ub (rel_u (ha.addrs.2 _ hx)) (Nat.zero_le _)) ?_
      rw [i64_in (i + 1) (by omega)]
      refine ih m (i + 1) _ (by omega) (by omega) (by omega) (by omega) fun hf => ?_
      rw [(hw k4 hf).2 _ hx, hs hf, i64_in _ (by omega)]
      omega
    · exact cf (beq_eq_false_iff_ne.2 k4) (cf (beq_eq_false_iff_ne.2 k4) fin)
theorem pure_PoolMost (c : Conf) (a : Ask) (hc : WfV E (.st 1) c) (ha : WfV E (.st 2) a) : lodgerlaw21_PoolMost c a = some true := by
  have wc := v_conf hc
  have wa := v_ask ha
  unfold lodgerlaw21_PoolMost lodgerlaw21_PoolMost_n lodgerlaw21_PoolMost_e
  refine bnd awake21 (cf rfl ?_)
  unfold lodgerref17_Small lodgerref10_Few
  obtain ⟨b, e, hb⟩ := rMay_eq wc
  rw [e]
  cases b
  · exact bnd (a := false) rfl (ct rfl (bnd awake21 rfl))
  have ok := hb rfl
  rw [rMany_eq ok.blk]
  refine bnd (a := decide (many c.block ≤ 256)) rfl ?_
  by_cases q1 : many c.block ≤ 256
  · refine cf (by rw [decide_eq_true q1]; rfl) ?_
    refine bnd (a := decide ((List.length a.addrs : Int) ≤ 100)) rfl ?_
    by_cases q2 : (a.addrs.length : Int) ≤ 100
    · refine cf (by rw [decide_eq_true q2]; rfl) ?_
      have few : a.addrs.length ≤ 100 := by omega
      refine bnd (Most_eq ok wc.block.base wa few) (bnd (rCheck_eq ok wc.block.base wa few) ?_)
      obtain ⟨p1, p2⟩ := mo_pos (a := a) ok
      by_cases hk : ck c a = 0
      · refine cf (show (ck c a != 0) = false by rw [hk]; rfl) (cf (decide_eq_false (by omega)) ?_)
        have e1 : (mo c a == 0) = (a.kind == 7) := by
          by_cases k7 : a.kind = 7
          · rw [beq_iff_eq.2 k7, beq_iff_eq.2 (p2.2 (.inr k7))]
          · rw [beq_eq_false_iff_ne.2 k7, beq_eq_false_iff_ne]
            intro e; rcases p2.1 e with h | h
            · exact h hk
            · exact k7 h
        refine cf (by rw [e1]; simp) ?_
        refine PM_l c a ok wc.block.base wa few _ (fun k4 _ => ?_) a.addrs.length big 0 0 (big_lt (by omega)) (by omega) (by omega) (by omega) (fun _ => rfl)
        refine ⟨?_, fun x hx => mo_rel (chk_all _ _ (ck_four hk k4).2.2 x hx)⟩
        unfold mo
        rw [if_neg (by simp [hk]), if_neg (by omega), if_neg (by omega), if_neg (by omega), if_pos k4]
      · refine ct (bne_iff_ne.2 hk) (cf (decide_eq_false (by omega)) (cf ?_ ?_))
        · rw [p2.2 (.inl hk)]; rfl
        · exact PM_l c a ok wc.block.base wa few true (fun _ h => by cases h) a.addrs.length big 0 0 (big_lt (by omega)) (by omega) (by omega) (by omega) (fun _ => rfl)
    · exact ct (by rw [decide_eq_false q2]; rfl) (bnd awake21 rfl)
  · exact ct (by rw [decide_eq_false q1]; rfl) (bnd awake21 rfl)
end
end Go.Lv.Ld
