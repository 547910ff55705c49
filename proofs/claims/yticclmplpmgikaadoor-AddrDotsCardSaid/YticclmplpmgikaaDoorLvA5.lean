import Derived.Test.YticclmplpmgikaaDoorLvA4
namespace Go.Lv.Ld
set_option linter.all false
open Go Go.Lv Go.IntWalk
set_option linter.unusedVariables false
set_option linter.unusedSimpArgs false
set_option maxRecDepth 100000

theorem four {l : List Int} (h : l.length = 4) : ∃ a b c d, l = [a, b, c, d] := by
  match l, h with
  | [a, b, c, d], _ => exact ⟨a, b, c, d, rfl⟩
theorem five {l : List Int} (h : l.length = 5) : ∃ a b c d e, l = [a, b, c, d, e] := by
  match l, h with
  | [a, b, c, d, e], _ => exact ⟨a, b, c, d, e, rfl⟩
theorem rParse_pw {s : List UInt8} (h : s.length ≤ 1000) : ∃ r, lodgerref04_Parse s = some r ∧ PW s r := by
  unfold lodgerref04_Parse
  rw [bnd (numbers_eq h) rfl]
  generalize s.foldl nstep [0] = l
  cases h1 : ((List.length l : Int) != 4) with
  | true => exact ⟨_, rfl, .inl rfl⟩
  | false =>
    have hl : l.length = 4 := by simp at h1; omega
    obtain ⟨a, b, c, d, rfl⟩ := four hl
    rw [cond_false, bnd (show geti [a, b, c, d] 0 = some a from rfl) rfl]
    cases q3 : decide (a > 255) with
    | true => exact ⟨_, rfl, .inl rfl⟩
    | false =>
      rw [cond_false, bnd (show geti [a, b, c, d] 1 = some b from rfl) rfl]
      cases q2 : decide (b > 255) with
      | true => exact ⟨_, rfl, .inl rfl⟩
      | false =>
        rw [cond_false, bnd (show geti [a, b, c, d] 2 = some c from rfl) rfl]
        cases q1 : decide (c > 255) with
        | true => exact ⟨_, rfl, .inl rfl⟩
        | false =>
          rw [cond_false, bnd (show geti [a, b, c, d] 3 = some d from rfl) rfl]
          cases q0 : decide (d > 255) with
          | true => exact ⟨_, rfl, .inl rfl⟩
          | false =>
            rw [cond_false, bnd (show geti [a, b, c, d] 0 = some a from rfl) rfl, bnd (show geti [a, b, c, d] 1 = some b from rfl) rfl, bnd (show geti [a, b, c, d] 2 = some c from rfl) rfl, bnd (show geti [a, b, c, d] 3 = some d from rfl) rfl]
            show ∃ r, ((lodgerref04_Text (sum4 a b c d)).bind fun r10 => (bif (!(r10 == s)) then some (0, 2) else some (sum4 a b c d, 0))) = some r ∧ PW s r
            have hu := sum4_u a b c d
            rw [bnd (rText_eq hu) rfl]
            cases h2 : (tx (sum4 a b c d).toNat == s) with
            | false => exact ⟨_, rfl, .inl rfl⟩
            | true =>
              unfold U32 at hu
              refine ⟨_, rfl, .inr ⟨(sum4 a b c d).toNat, by omega, (beq_iff_eq.1 h2).symm, ?_⟩⟩
              rw [Int.toNat_of_nonneg hu.1]
theorem rParse_tx {a : Nat} (ha : a < 4294967296) : lodgerref04_Parse (tx a) = some ((a : Int), 0) := by
  unfold lodgerref04_Parse
  have hl := (tx_len ha).1
  rw [bnd ((numbers_eq (by omega)).trans (congrArg some (fold_tx ha))) rfl]
  refine cf rfl (bnd rfl (cf ?_ (bnd rfl (cf ?_ (bnd rfl (cf ?_ (bnd rfl (cf ?_ (bnd rfl (bnd rfl (bnd rfl (bnd rfl ?_))))))))))))
  · simp; omega
  · simp; omega
  · simp; omega
  · simp; omega
  · have hs := sum4_eq ha
    show ((lodgerref04_Text (sum4 _ _ _ _)).bind fun r10 => (bif (!(r10 == tx a)) then some (0, 2) else some (sum4 ((a / 16777216 : Nat) : Int) ((a / 65536 % 256 : Nat) : Int) ((a / 256 % 256 : Nat) : Int) ((a % 256 : Nat) : Int), 0))) = _
    rw [hs]
    refine bnd (rText_eq (by unfold U32; omega)) ?_
    rw [Int.toNat_natCast]
    exact cf (by simp) rfl
theorem rParse_ps {s : List UInt8} (h : s.length ≤ 1000) : ∃ r, lodgerref04_Parse s = some r ∧ PS s r := by
  obtain ⟨r, h1, h2⟩ := rParse_pw h
  refine ⟨r, h1, ?_⟩
  rcases h2 with rfl | h2
  · refine .inr ⟨fun a ha e => ?_, rfl⟩
    rw [e, rParse_tx ha] at h1
    simp at h1
  · exact .inl h2
theorem rParseBlock_btx {b : Block} (h : BK b) : lodgerref04_ParseBlock (btx b) = some (b, 0) := by
  have p := BK_pre h
  have u := h.1
  have u' := u
  unfold U32 at u'
  have hl := (@tx_len b.base.toNat (by omega)).1
  have hd := @D_len b.pre.toNat (by omega)
  unfold lodgerref04_ParseBlock
  rw [bnd ((numbers_eq (by unfold btx; simp; omega)).trans (congrArg some (fold_btx h))) rfl]
  refine cf rfl (bnd rfl (cf ?_ (bnd rfl (cf ?_ (bnd rfl (cf ?_ (bnd rfl (cf ?_ (bnd rfl (bnd rfl (bnd rfl (bnd rfl (bnd rfl ?_)))))))))))))
  · simp; omega
  · simp; omega
  · simp; omega
  · simp; omega
  · have hs := @sum4_eq b.base.toNat (by omega)
    show ((lodgerref04_BlockText (⟨sum4 _ _ _ _, ((b.pre.toNat : Nat) : Int)⟩ : Block)).bind fun r11 => (bif (r11.2 != 0) then some ((⟨0, 0⟩ : Block), 2) else (bif (!(r11.1 == btx b)) then some ((⟨0, 0⟩ : Block), 2) else some ((⟨sum4 ((b.base.toNat / 16777216 : Nat) : Int) ((b.base.toNat / 65536 % 256 : Nat) : Int) ((b.base.toNat / 256 % 256 : Nat) : Int) ((b.base.toNat % 256 : Nat) : Int), ((b.pre.toNat : Nat) : Int)⟩ : Block), 0)))) = _
    rw [hs]
    have eb : (⟨((b.base.toNat : Nat) : Int), ((b.pre.toNat : Nat) : Int)⟩ : Block) = b := by
      rw [Int.toNat_of_nonneg u'.1, Int.toNat_of_nonneg (by omega)]
    rw [eb]
    refine bnd (rBlockText_eq u) ?_
    rw [h.2]
    exact cf rfl (cf (by simp) rfl)
theorem rParseBlock_pb {s : List UInt8} (h : s.length ≤ 1000) : ∃ r, lodgerref04_ParseBlock s = some r ∧ PB s r := by
  have key : ∃ r, lodgerref04_ParseBlock s = some r ∧ (r = (⟨0, 0⟩, 2) ∨ ∃ b, BK b ∧ s = btx b ∧ r = (b, 0)) := by
    unfold lodgerref04_ParseBlock
    rw [bnd (numbers_eq h) rfl]
    generalize s.foldl nstep [0] = l
    cases h1 : ((List.length l : Int) != 5) with
    | true => exact ⟨_, rfl, .inl rfl⟩
    | false =>
      have hl : l.length = 5 := by simp at h1; omega
      obtain ⟨a, b, c, d, e, rfl⟩ := five hl
      rw [cond_false, bnd (show geti [a, b, c, d, e] 0 = some a from rfl) rfl]
      cases q3 : decide (a > 255) with
      | true => exact ⟨_, rfl, .inl rfl⟩
      | false =>
        rw [cond_false, bnd (show geti [a, b, c, d, e] 1 = some b from rfl) rfl]
        cases q2 : decide (b > 255) with
        | true => exact ⟨_, rfl, .inl rfl⟩
        | false =>
          rw [cond_false, bnd (show geti [a, b, c, d, e] 2 = some c from rfl) rfl]
          cases q1 : decide (c > 255) with
          | true => exact ⟨_, rfl, .inl rfl⟩
          | false =>
            rw [cond_false, bnd (show geti [a, b, c, d, e] 3 = some d from rfl) rfl]
            cases q0 : decide (d > 255) with
            | true => exact ⟨_, rfl, .inl rfl⟩
            | false =>
              rw [cond_false, bnd (show geti [a, b, c, d, e] 0 = some a from rfl) rfl, bnd (show geti [a, b, c, d, e] 1 = some b from rfl) rfl, bnd (show geti [a, b, c, d, e] 2 = some c from rfl) rfl, bnd (show geti [a, b, c, d, e] 3 = some d from rfl) rfl, bnd (show geti [a, b, c, d, e] 4 = some e from rfl) rfl]
              show ∃ r, ((lodgerref04_BlockText (⟨sum4 a b c d, e⟩ : Block)).bind fun r11 => (bif (r11.2 != 0) then some ((⟨0, 0⟩ : Block), 2) else (bif (!(r11.1 == s)) then some ((⟨0, 0⟩ : Block), 2) else some ((⟨sum4 a b c d, e⟩ : Block), 0)))) = some r ∧ _
              have hu := sum4_u a b c d
              rw [bnd (rBlockText_eq (b := ⟨sum4 a b c d, e⟩) hu) rfl]
              cases hm : mayb ⟨sum4 a b c d, e⟩ with
              | false => exact ⟨_, rfl, .inl rfl⟩
              | true =>
                rw [cond_true]
                show ∃ r, (bif (!(btx ⟨sum4 a b c d, e⟩ == s)) then some ((⟨0, 0⟩ : Block), 2) else some ((⟨sum4 a b c d, e⟩ : Block), 0)) = some r ∧ _
                cases h2 : (btx ⟨sum4 a b c d, e⟩ == s) with
                | false => exact ⟨_, rfl, .inl rfl⟩
                | true => exact ⟨_, rfl, .inr ⟨_, ⟨hu, hm⟩, (beq_iff_eq.1 h2).symm, rfl⟩⟩
  obtain ⟨r, h1, h2⟩ := key
  refine ⟨r, h1, ?_⟩
  rcases h2 with rfl | h2
  · refine .inr ⟨fun b hb e => ?_, rfl⟩
    rw [e, rParseBlock_btx hb] at h1
    simp at h1
  · exact .inl h2

-- the anchor
theorem D2 {k : Nat} (h : 10 ≤ k) (h2 : k < 100) : D k = [UInt8.ofNat (48 + k / 10), UInt8.ofNat (48 + k % 10)] := Lib.decDigits_two (by omega) h2
theorem D255 : D 255 = [50, 53, 53] := by rw [D_big (by omega), D2 (by omega) (by omega)]; rfl
theorem tx_lit1 : tx 167772416 = [49, 48, 46, 48, 46, 49, 46, 48] := by
  rw [tx_of (a := 167772416) (b3 := 10) (b2 := 0) (b1 := 1) (b0 := 0) (by omega) (by omega) (by omega) (by omega), D2 (by omega) (by omega), D_small (by omega), D_small (by omega)]; rfl
theorem tx_lit2 : tx 167772417 = [49, 48, 46, 48, 46, 49, 46, 49] := by
  rw [tx_of (a := 167772417) (b3 := 10) (b2 := 0) (b1 := 1) (b0 := 1) (by omega) (by omega) (by omega) (by omega), D2 (by omega) (by omega), D_small (by omega), D_small (by omega)]; rfl
theorem tx_lit3 : tx 4278190089 = [50, 53, 53, 46, 48, 46, 48, 46, 57] := by
  rw [tx_of (a := 4278190089) (b3 := 255) (b2 := 0) (b1 := 0) (b0 := 9) (by omega) (by omega) (by omega) (by omega), D255, D_small (by omega), D_small (by omega)]; rfl
theorem tx_lit4 : tx 1 = [48, 46, 48, 46, 48, 46, 49] := by
  rw [tx_of (a := 1) (b3 := 0) (b2 := 0) (b1 := 0) (b0 := 1) (by omega) (by omega) (by omega) (by omega), D_small (by omega), D_small (by omega)]; rfl
def blk1 : Block := ⟨167772416, 24⟩
theorem bk1 : BK blk1 := ⟨by unfold U32 blk1; simp, by unfold mayb blk1; decide⟩
theorem btx_lit1 : btx blk1 = [49, 48, 46, 48, 46, 49, 46, 48, 47, 50, 52] := by
  show tx 167772416 ++ 47 :: D 24 = _
  rw [tx_lit1, D2 (by omega) (by omega)]; rfl
theorem no_lit2 : ∀ b, BK b → ([49, 48, 46, 48, 46, 49, 46, 49, 47, 50, 52] : List UInt8) ≠ btx b := by
  intro b hb e
  have e1 : ([49, 48, 46, 48, 46, 49, 46, 49, 47, 50, 52] : List UInt8) = tx 167772417 ++ 47 :: D 24 := by rw [tx_lit2, D2 (by omega) (by omega)]; rfl
  rw [e1] at e
  unfold btx at e
  obtain ⟨q1, q2⟩ := uniq (tx_no47 _) (tx_no47 _) e
  have u := hb.1
  have p := BK_pre hb
  unfold U32 at u
  have r1 := tx_inj (by omega) (by omega) q1
  have r2 := D_inj (by omega) (by omega) q2
  have hm := hb.2
  have eb : b = ⟨167772417, 24⟩ := by
    obtain ⟨x, y⟩ := b
    simp only at *
    rw [show x = 167772417 by omega, show y = 24 by omega]
  rw [eb] at hm
  revert hm
  unfold mayb
  decide
theorem no_lit4 : ∀ a : Nat, a < 4294967296 → ([50, 53, 53, 46, 48, 46, 48, 46, 48, 57] : List UInt8) ≠ tx a := by
  intro a ha e
  obtain ⟨_, _, _, e0⟩ := tx_parts (a := a) (x3 := [50, 53, 53]) (x2 := [48]) (x1 := [48]) (x0 := [48, 57]) (by decide) (by decide) (by decide) (by rw [← e]; rfl)
  have h := pu_D (a % 256) (by omega)
  rw [e0] at h
  have h9 : Lib.parseUint10 0 [48, 57] = .ok 9 := by decide
  rw [h9] at h
  have : a % 256 = 9 := by injection h with q; exact q.symm
  rw [this, D_small (by omega)] at e0
  revert e0
  decide
theorem awake_eq : lodgerlaw04_awake = some true := by
  unfold lodgerlaw04_awake
  have p1 : addr_ParseBlock [49, 48, 46, 48, 46, 49, 46, 48, 47, 50, 52] = some (blk1, 0) := by rw [← btx_lit1]; exact ParseBlock_btx bk1
  have p2 : addr_ParseBlock [49, 48, 46, 48, 46, 49, 46, 49, 47, 50, 52] = some (⟨0, 0⟩, 2) := by
    obtain ⟨r, h1, h2⟩ := ParseBlock_pb (s := [49, 48, 46, 48, 46, 49, 46, 49, 47, 50, 52]) (by decide)
    rcases h2 with ⟨b, hb, e, _⟩ | ⟨_, rfl⟩
    · exact absurd e (no_lit2 b hb)
    · exact h1
  have p3 : addr_Parse [50, 53, 53, 46, 48, 46, 48, 46, 57] = some (4278190089, 0) := by rw [← tx_lit3]; exact Parse_tx (by omega)
  have p4 : addr_Parse [50, 53, 53, 46, 48, 46, 48, 46, 48, 57] = some (0, 2) := by
    obtain ⟨r, h1, h2⟩ := Parse_ps (s := [50, 53, 53, 46, 48, 46, 48, 46, 48, 57]) (by decide)
    rcases h2 with ⟨b, hb, e, _⟩ | ⟨_, rfl⟩
    · exact absurd e (no_lit4 b hb)
    · exact h1
  have p5 : addr_BlockText blk1 = some ([49, 48, 46, 48, 46, 49, 46, 48, 47, 50, 52], 0) := by rw [BlockText_eq bk1.1, bk1.2, ← btx_lit1]; rfl
  have p6 : addr_BlockText (⟨0, 15⟩ : Block) = some ([], 2) := by
    rw [BlockText_eq (by unfold U32; simp), show mayb ⟨0, 15⟩ = false by unfold mayb; decide]; rfl
  have p7 : addr_Text 1 = some [48, 46, 48, 46, 48, 46, 49] := by rw [Text_eq (by unfold U32; omega)]; exact congrArg some tx_lit4
  have p8 : addr_May blk1 = some true := by rw [May_eq bk1.1, bk1.2]
  have p9 : addr_May (⟨1, 31⟩ : Block) = some false := by rw [May_eq (by unfold U32; simp), show mayb ⟨1, 31⟩ = false by unfold mayb; decide]
  refine bnd p1 (bnd p2 (bnd p3 (bnd p4 (bnd p5 (bnd p6 ?_)))))
  refine ct (by decide) (ct rfl (ct rfl (ct rfl (ct rfl (ct rfl (ct rfl (ct rfl (ct rfl (bnd p7 (ct rfl (bnd p8 (ct rfl (bnd p9 rfl)))))))))))))
end Go.Lv.Ld
