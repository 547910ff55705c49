import Derived.Test.YtonphdpgepnenaaDoorLvStr
import Derived.Shelf.SlicesE.Clone
namespace Go.Lv
set_option linter.all false
open Go Go.RowKit Go.Proofs Go.Shelf Go.Lib
variable {S : Nat → Type}
set_option maxHeartbeats 2000000 in
set_option maxRecDepth 100000 in
/-- slices.Clone of what is not nil, whatever its address. -/
theorem Clone_some {P : Program} {ρ : Ren} (L : SlLaysE0.n41 P ρ) (i0 : TypeInfo) (z : Value) (size bytes : Nat) (hi : P.info? (ρ.t 23) = some i0) (hz0 : i0.zero = some z) (hz1 : i0.size = size) (hz2 : i0.bytes = bytes) (hzs : z.cells.size = size) (hsz : 0 < size)
    (z23 : ∀ w, (Go.sizeOf (ρ.t 23)).run P w = .ok size w) (a : Addr) (n c : Nat) (news : List Value) (w : World) (hl : news.length = n * size) (hn : n ≤ maxLen) (hbig : n * bytes ≤ 140737488355328)
    (hc : ∀ j u, news[j]? = some u → w.cell? (a.add j) = some u) (h1 : ∀ u ∈ news, u.oneCell' = true) :
    Calls P (ρ.f 41) #[.slice (some a) n c] w fun e w' => ∃ v', e = .returned v' ∧ w'.ownsRow w.heap.size (ρ.t 23) size v' n news ∧ v' ≠ .slice none 0 0 ∧ Below w.heap.size w w' := by
  have mixed := L.mixed; have t4 := L.t4; have a4 := L.a4; have z4 := L.z4; have v4 := L.v4; have t22 := L.t22; have a22 := L.a22; have z22 := L.z22; have v22 := L.v22
  have q22 : ∀ (w : World) (a : Option Addr) (n c n' c' : Nat), (binOp .eql (ρ.t 22) (.slice a n c) (.slice none n' c')).run P w = .ok (.bool a.isNone) w := fun w a n c n' c' => Lib.run_eql_slice_nil w _ _ a n c n' c' L.t22
  have u22 : ∀ w, Sem.run P (underlying (ρ.t 22)) w = .ok (TypeDesc.slice (ρ.t 23)) w := run_underlying t22
  have A : Aside (∀ j u, news[j]? = some u → w.cell? (a.add j) = some u) := hc
  clear hc
  obtain ⟨_, _, FG⟩ := L.f41
  go_enter FG, SlBodyN.n41_ntmps ρ
  go_wp2_with (at_builtin; refine wpList_append_own _ rfl _ _ (ρ.t 22) rfl w.heap.size (ρ.t 23) i0 z size bytes t22 hi hz0 hz1 hz2 hzs hsz _ _ _ rfl (World.ownsRow_made w #[] 0 (Nat.le_refl _) (Nat.zero_le _) (by simp)) a n c news rfl ?qc1 ?qc2 ?qc3 ?qc4 ?qc5 ?qc6 ?_)
  case qc1 => exact hl
  case qc2 =>
    intro j u hj
    exact Lib.cell?_alloc_some _ (A.out j u hj)
  case qc3 => exact h1
  case qc4 => rw [Nat.zero_add]; exact hn
  case qc5 => rw [Nat.zero_add]; exact hbig
  case qc6 => simp
  intro v' w1 hown hgrow hnil
  go_wp2
  go_ret
  refine ⟨v', rfl, by simpa using hown, ?_, ?_⟩
  · exact hnil
  · exact ((Below.refl _ w).alloc (Nat.le_refl _) _).grown hgrow (by simp) (by intro k hk; simp [Value.ownBlock] at hk; omega)

/-- A list once more. -/
def cloneF {α : Type} (l : List α) : Option (List α) := if l.length ≤ maxList then some l else none
def spClone (T : Ty) : Spec S := { args := [.slice T], R := List (den S T), run := run1 (.slice T) (cloneF (α := den S T)), enc := enc1 (.slice T) }
theorem ok_Clone {C : Ctx S} {ρ : Ren} {T : Ty} (hE : EnvOK C.E) (hT : TyOK C) (L : SlLaysE0.n41 C.P ρ) (hty : C.ty (ρ.t 23) = some T) (he : Enters C.P (ρ.f 41)) : SpecOK C (ρ.f 41) (spClone T) := by
  refine ⟨he, fun σ w vs cs r hglob hnew hargs hrun => ?_⟩
  obtain ⟨l', hl', h⟩ := inv1 hrun
  obtain ⟨l, hll⟩ : ∃ l : List (den S T), l = l' := ⟨l', rfl⟩
  subst hll
  subst hl'
  have h0 : 0 < vs.size := by rw [hargs.1]; exact Nat.zero_lt_succ _
  have hr1 : Rep C.E σ w vs[0] (.slice T) l := cell_inv (hargs.2 0 vs[0] _ (by simp [h0]) rfl)
  have hv := arr1 hargs.1 (Array.getElem?_eq_getElem h0)
  generalize vs[0] = v0 at hv hr1
  subst hv
  unfold cloneF at h
  split at h
  · rename_i hb
    have h := Option.some.inj h
    subst h
    obtain ⟨i0, z, hi, hsz, hz, hzs, hpos, hby⟩ := hT _ _ hty
    have hmax : l.length ≤ maxLen := by simp only [maxList] at hb; simp only [maxLen]; omega
    have hbytes : l.length * i0.bytes ≤ 140737488355328 := by
      simp only [maxList] at hb
      calc l.length * i0.bytes ≤ 137438953472 * 1024 := Nat.mul_le_mul hb hby
        _ = 140737488355328 := rfl
    have hsize : ∀ w, (Go.sizeOf (ρ.t 23)).run C.P w = .ok i0.size w := fun w => run_sizeOf (by unfold sizeOf?; rw [hi]; rfl)
    cases hr1 with
    | nil _ a cap =>
      cases a with
      | none =>
        refine (AnyE.slices_Clone_nil L 0 cap w).mono ?_
        rintro e w' ⟨rfl, rfl⟩
        exact ret_leaf hnew (Below.refl _ _) (.cell (.nil T none 0))
      | some a =>
        refine (Clone_some L i0 z i0.size i0.bytes hi hz rfl rfl hzs hpos hsize a 0 cap [] w (by simp) (Nat.zero_le _) (by omega) (fun j u hj => by simp at hj) (fun u hu => by cases hu)).mono ?_
        rintro e w' ⟨v', rfl, hown, _, hbl⟩
        refine ret_leaf hnew hbl (.cell ?_)
        rcases hown.2 with ⟨rfl, _⟩ | ⟨g, cap', cur, rfl, _⟩
        · exact .nil T none 0
        · exact .nil T _ cap'
    | slice _ _ b off cap f hcap hst hc hr =>
      by_cases hl0 : l.length = 0
      · have hl : l = [] := List.eq_nil_of_length_eq_zero hl0
        subst hl
        refine (Clone_some L i0 z i0.size i0.bytes hi hz rfl rfl hzs hpos hsize ⟨b, off, none⟩ 0 cap [] w (by simp) (Nat.zero_le _) (by omega) (fun j u hj => by simp at hj) (fun u hu => by cases hu)).mono ?_
        rintro e w' ⟨v', rfl, hown, _, hbl⟩
        refine ret_leaf hnew hbl (.cell ?_)
        rcases hown.2 with ⟨rfl, _⟩ | ⟨g, cap', cur, rfl, _⟩
        · exact .nil T none 0
        · exact .nil T _ cap'
      · refine (AnyE.slices_Clone L i0 z i0.size i0.bytes hi hz rfl rfl hzs hpos hsize b off l.length cap ((List.range (l.length * i0.size)).map f) w (by simp) hmax hbytes (fun j u hj => ?_) (fun u hu => ?_)).mono ?_
        · have hjl : j < l.length * i0.size := by
            have := (List.getElem?_eq_some_iff.1 hj).1
            simpa using this
          rw [List.getElem?_map, List.getElem?_range hjl] at hj
          cases hj
          exact hc j (by rw [← hsz]; exact hjl)
        · obtain ⟨j, hj, rfl⟩ := List.mem_map.1 hu
          have hjl := List.mem_range.1 hj
          have hq : j / i0.size < l.length := by rw [Nat.div_lt_iff_lt_mul hpos]; exact hjl
          obtain ⟨x, hx⟩ : ∃ x : den S T, l[j / i0.size]? = some x := ⟨_, List.getElem?_eq_getElem hq⟩
          have hm : j % i0.size < (cellsOf C.E T x).length := by rw [cellsOf_len hE, ← hsz]; exact Nat.mod_lt _ hpos
          have := hr (j / i0.size) x hx (j % i0.size) _ (List.getElem?_eq_getElem hm)
          rw [← hsz, Nat.div_add_mod'] at this
          exact this.one
        · rintro e w' ⟨v', rfl, hown, _, hbl⟩
          rcases hown.2 with ⟨_, h0⟩ | ⟨g, cap', cur, rfl, hg, hcur, hcap', hcm, hcs, htake⟩
          · exact absurd h0 hl0
          · have hgn : g < w'.heap.size := (Array.getElem?_eq_some_iff.1 hcur).1
            refine ⟨_, fun b => if b = g then l.length * tsize C.E T else σ b, rfl, hbl, fun b hb => by simp only; rw [if_neg (by omega)], fun b hb => by simp only; rw [if_neg (by omega)]; exact hnew b (Nat.le_trans hbl.size hb), .cell ?_⟩
            refine Rep.slice (S := S) T l g 0 cap' f hcap' (by show 0 + List.length l * tsize C.E T ≤ (if g = g then List.length l * tsize C.E T else σ g); rw [if_pos rfl]; omega) (fun j hj => ?_) (fun i x hi2 j c hj => ?_)
            · have hj2 : j < l.length * i0.size := by rw [hsz]; exact hj
              have e1 : (cur.toList.take (l.length * i0.size))[j]? = some (f j) := by rw [htake, List.getElem?_map, List.getElem?_range hj2]; rfl
              rw [List.getElem?_take, if_pos hj2, Array.getElem?_toList] at e1
              rw [Nat.zero_add]
              simp [World.cell?, hcur, e1]
            · refine (hr i x hi2 j c hj).mono (fun b => ?_) (fun b o ho => ?_)
              · show σ b ≤ (if b = g then List.length l * tsize C.E T else σ b)
                split
                · rename_i e1; subst e1; rw [hnew b hg]; exact Nat.zero_le _
                · exact Nat.le_refl _
              · have hbs : b < w.heap.size := by
                  by_cases q : w.heap.size ≤ b
                  · rw [hnew b q] at ho; omega
                  · omega
                have := hbl.block b hbs
                simp [World.cell?, this]
  · cases h
end Go.Lv
