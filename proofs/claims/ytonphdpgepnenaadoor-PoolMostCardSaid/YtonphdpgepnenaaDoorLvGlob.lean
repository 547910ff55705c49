import Derived.Test.YtonphdpgepnenaaDoorLvStr
import Derived.Lib.LaidTab
namespace Go.Lv
set_option linter.all false
open Go Go.RowKit
variable {S : Nat → Type}
theorem laidVars_mem {P : Program} {W : World} : ∀ {l : List (String × DataW Unit)} {ps : List MemPlace}, DataW.LaidVars P W l ps → ∀ n d, (n, d) ∈ l → ∃ g t cs fuel p, P.globalNamed n = some g ∧ (P.globals[g]?).map (·.type) = some t ∧ W.var? P n = some cs ∧
    DataW.trod (fun _ => ()) P W 0 (fun _ => true) false fuel t cs.toList = some (d, p)
  | [], _, _, n, d, h => by cases h
  | (n0, d0) :: r, ps, ⟨g, t, cs, fuel, p, q, h1, h2, h3, h4, h5, _⟩, n, d, h => by
    rcases List.mem_cons.1 h with e | h
    · cases e; exact ⟨g, t, cs, fuel, p, h1, h2, h3, h4⟩
    · exact laidVars_mem h5 n d h
theorem var_heap {P : Program} {W : World} {n : String} {g : Nat} {cs : Array Value} (hg : P.globalNamed n = some g) (h : W.var? P n = some cs) : ∃ t f, W.heap[g]? = some (.cells cs t f) := by
  unfold World.var? at h
  rw [hg] at h
  simp only [Option.bind_some] at h
  split at h
  · rename_i c t f hh; cases h; exact ⟨t, f, hh⟩
  · cases h
def GlobAt (E : Env S) (W : World) (g : Nat) (vs : List (V S)) : Prop :=
  RepV E (gh0 (sig W)) W (.pointer (some ⟨g, 0, none⟩)) (.ro vs) ∧ 0 < sig W g ∧ ∃ c t f, W.heap[g]? = some (.cells c t f) ∧ c.size = vs.length
theorem globAt_of {E : Env S} {W : World} {g : Nat} {vs : List (V S)} {c : Array Value} {t : TypeId} {f : Nat × Nat} (hh : W.heap[g]? = some (.cells c t f)) (hs : c.size = vs.length) (h0 : 0 < vs.length)
    (hr : ∀ (j : Nat) (v : Value) (x : V S), c[j]? = some v → vs[j]? = some x → RepV E (gh0 (sig W)) W v x) : GlobAt E W g vs := by
  have hsig : sig W g = c.size := by unfold sig; rw [hh]
  refine ⟨.ro g 0 vs (fun j => c.getD j Go.undef) (by show 0 + vs.length ≤ sig W g; omega) (fun j hj => ?_) (fun j x hx => ?_), by omega, c, t, f, hh, hs⟩
  · have hjc : j < c.size := by omega
    rw [Nat.zero_add]
    simp [World.cell?, hh, Array.getD, hjc]
  · have hjc : j < c.size := by rw [hs]; exact (List.getElem?_eq_some_iff.1 hx).1
    have : c.getD j Go.undef = c[j] := by simp [Array.getD, hjc]
    simp only [this]
    exact hr j c[j] x (by simp [hjc]) hx
theorem globAt_ints {E : Env S} {P : Program} {W : World} {l : List (String × DataW Unit)} {n : String} {k : IntKind} {zs : List Int} {g : Nat} {t e : TypeId} {m : Nat} (h : laidMet P l W) (hm : (n, Lib.tabData k zs) ∈ l) (hg : P.globalNamed n = some g)
    (hty : (P.globals[g]?).map (·.type) = some t) (ht : P.underlying t = some (.array m e)) (he : P.underlying e = some (.int k)) (hce : P.cellsOf e = 1) (hct : P.cellsOf t = m) (h0 : 0 < zs.length) : GlobAt E W g (intCells k zs) := by
  obtain ⟨ps, hv, _⟩ := h
  obtain ⟨g', t', cs, fuel, p, k1, k2, k3, k4⟩ := laidVars_mem hv _ _ hm
  obtain rfl := Option.some.inj (hg.symm.trans k1)
  obtain rfl := Option.some.inj (hty.symm.trans k2)
  have hcs := Lib.cells_of_tab ht he hce hct k4
  obtain ⟨t1, f1, hh⟩ := var_heap hg k3
  have hsz : cs.size = zs.length := by rw [← Array.length_toList, hcs, List.length_map]
  refine globAt_of hh (by rw [hsz, intCells_len]) (by rw [intCells_len]; exact h0) fun j v x q1 q2 => ?_
  have hj : j < zs.length := by rw [← hsz]; exact (Array.getElem?_eq_some_iff.1 q1).1
  rw [intCells_get k zs j hj] at q2
  cases q2
  have q3 : cs.toList[j]? = some v := by rw [Array.getElem?_toList]; exact q1
  rw [hcs, List.getElem?_map, List.getElem?_eq_getElem hj] at q3
  cases q3
  exact .cell (.int k _)
theorem globAt_err {E : Env S} {P : Program} {W : World} {l : List (String × DataW Unit)} {n nm : String} {d : DataW Unit} {g : Nat} {t : TypeId} {ms : Array (String × TypeId)} (h : laidMet P l W) (hm : (n, DataW.iface nm d) ∈ l) (hg : P.globalNamed n = some g)
    (hty : (P.globals[g]?).map (·.type) = some t) (ht : P.underlying t = some (.interface ms)) : GlobAt E W g [V.cell .err true] := by
  obtain ⟨ps, hv, _⟩ := h
  obtain ⟨g', t', cs, fuel, p, k1, k2, k3, k4⟩ := laidVars_mem hv _ _ hm
  obtain rfl := Option.some.inj (hg.symm.trans k1)
  obtain rfl := Option.some.inj (hty.symm.trans k2)
  have hcs : ∃ u v, cs.toList = [.iface u v] := by
    have := iface_of_trod ht k4
    obtain ⟨_, u, v, q⟩ := this
    exact ⟨u, v, q.1⟩
  obtain ⟨u, v, hcs⟩ := hcs
  obtain ⟨t1, f1, hh⟩ := var_heap hg k3
  have hsz : cs.size = 1 := by rw [← Array.length_toList, hcs]; rfl
  refine globAt_of hh (by rw [hsz]; rfl) (by simp) fun j v' x q1 q2 => ?_
  cases j with
  | succ j => simp at q2
  | zero =>
    cases q2
    have q3 : cs.toList[0]? = some v' := by rw [Array.getElem?_toList]; exact q1
    rw [hcs] at q3
    cases q3
    exact .cell (.err u v)
end Go.Lv
