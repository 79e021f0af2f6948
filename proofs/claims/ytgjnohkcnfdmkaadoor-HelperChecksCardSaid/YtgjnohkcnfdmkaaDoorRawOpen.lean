/-
  A TABLE OF HELPERS THAT COMES IN AS AN ARGUMENT, READ OUT OF THE ROW's READING.
-/
import Derived.Test.YtgjnohkcnfdmkaaDoorHelpLaw
import Derived.Deep.Slices
import Derived.Lib.SmallJoins
namespace Go.Proofs.YtgjnohkcnfdmkaaDoor
open Go.RowKit Go.WideShapes

/-- What the walk is told of a table that came in. -/
def RawRow (W : World) (a : Option Addr) (n c : Nat) (l : List Hp) : Prop :=
  l.length = n ∧ ((a = none ∧ l = [] ∧ c = 0) ∨ ∃ g o, a = some ⟨g, o, none⟩ ∧ g < W.heap.size ∧
    ∀ (k : Nat) (h : Hp), l[k]? = some h → W.cell? ⟨g, o + k * 4, none⟩ = some (.string h.cmd) ∧ W.cell? ⟨g, o + k * 4 + 1, none⟩ = some (.string h.out) ∧ W.cell? ⟨g, o + k * 4 + 2, none⟩ = some (.bool h.fails) ∧ W.cell? ⟨g, o + k * 4 + 3, none⟩ = some (.int .i64 h.ticks))
theorem RawRow.at {W : World} {a : Option Addr} {n c : Nat} {l : List Hp} (h : RawRow W a n c l) (hn : n ≤ 80) : HelpersAt W (.slice a n c) l := by
  obtain ⟨rfl, h⟩ := h
  refine ⟨by omega, ?_⟩
  rcases h with ⟨rfl, rfl, rfl⟩ | ⟨g, o, rfl, hg, hc⟩
  · exact .inl ⟨rfl, rfl⟩
  · exact .inr ⟨g, o, c, rfl, hg, hc⟩
theorem add_none (g o n : Nat) : (⟨g, o, none⟩ : Addr).add n = ⟨g, o + n, none⟩ := by
  unfold Addr.add
  split
  · rename_i h; rw [h]; rfl
  · rfl
set_option maxRecDepth 100000 in
theorem raw_spot {W : World} {base : Nat} {a : Addr} {n c : Nat} (h : Value.okWide Tryd.prog W .any base 27 (.slice (some a) n c)) : a.spot = none ∧ a.block < W.heap.size := by
  simp only [Value.okWide, Tryd.underlying27, Cell.okWide] at h
  simp [Cell.ok, Tryd.underlying27, World.has] at h
  obtain ⟨_, _, _, hs, x, y, hsh, _⟩ := h
  refine ⟨hs, ?_⟩
  unfold World.shape? at hsh
  cases hb : W.heap[a.block]? with
  | none => rw [hb] at hsh; simp at hsh
  | some _ => exact (Array.getElem?_eq_some_iff.1 hb).1

set_option maxRecDepth 100000 in
theorem open_raw {H : Type} {enc : TypeId × Value → H} {W : World} {base : Nat} {fuel : Nat} {a : Option Addr} {n c : Nat} {x : DataW H × List MemPlace}
    (hv : Value.okWide Tryd.prog W .any base 27 (.slice a n c))
    (h : DataW.trod enc Tryd.prog W 0 (fun _ => true) true fuel 27 [.slice a n c] = some x) :
    ∃ l : List Hp, RawRow W a n c l ∧ ∀ h ∈ l, h.cmd.size ≤ maxLen ∧ h.out.size ≤ maxLen := by
  rcases Go.Deep.open_slice Tryd.underlying27 h with ⟨hcs, _⟩ | ⟨y, len, cap, m, N, D, Pl, hcs, hb, hl, hm, hmm, _, hel⟩
  · simp at hcs
    obtain ⟨rfl, rfl, rfl⟩ := hcs
    exact ⟨[], ⟨List.length_nil, .inl ⟨rfl, rfl, rfl⟩⟩, fun h hh => absurd hh List.not_mem_nil⟩
  · simp at hcs
    obtain ⟨rfl, rfl, rfl⟩ := hcs
    obtain ⟨hsp, hlt⟩ := raw_spot hv
    obtain ⟨g, o, sp⟩ := y
    simp only at hsp hlt
    subst hsp
    have hlm : n ≤ m := by rw [hmm]; split <;> omega
    have c4 : Tryd.prog.cellsOf 40 = 4 := by kernel_rfl
    have c1 : Tryd.prog.cellsOf 9 = 1 := by kernel_rfl
    have c2 : Tryd.prog.cellsOf 4 = 1 := by kernel_rfl
    have c3 : Tryd.prog.cellsOf 3 = 1 := by kernel_rfl
    have each : ∀ i, i < n → ∃ h : Hp, (h.cmd.size ≤ maxLen ∧ h.out.size ≤ maxLen) ∧ W.cell? ⟨g, o + i * 4, none⟩ = some (.string h.cmd) ∧ W.cell? ⟨g, o + i * 4 + 1, none⟩ = some (.string h.out) ∧ W.cell? ⟨g, o + i * 4 + 2, none⟩ = some (.bool h.fails) ∧ W.cell? ⟨g, o + i * 4 + 3, none⟩ = some (.int .i64 h.ticks) := by
      intro i hi
      obtain ⟨cs', h1, h2⟩ := hel i (by omega)
      rw [c4, add_none] at h1
      obtain ⟨_, hlen, hcell⟩ := World.cells?_some h1
      obtain ⟨y0, y1, y2, y3, k, _, _, t0, t1, t2, t3⟩ := Go.Joins.trod_struct4 Tryd.underlying40 h2
      match cs', hlen with
      | [v0, v1, v2, v3], _ =>
        have e0 := hcell 0 (by omega)
        have e1 := hcell 1 (by omega)
        have e2 := hcell 2 (by omega)
        have e3 := hcell 3 (by omega)
        rw [add_none] at e0 e1 e2 e3
        simp [c1, c2, c3] at t0 t1 t2 t3 e0 e1 e2 e3
        obtain ⟨s0, q0, _, z0⟩ := DataW.trod_string Tryd.underlying9 t0
        obtain ⟨s1, q1, _, z1⟩ := DataW.trod_string Tryd.underlying9 t1
        obtain ⟨b, q2, _⟩ := DataW.trod_bool Tryd.underlying4 t2
        obtain ⟨z, q3, _, _⟩ := DataW.trod_int Tryd.underlying3 t3
        simp at q0 q1 q2 q3
        subst q0 q1 q2 q3
        exact ⟨⟨s0, s1, b, z⟩, ⟨z0, z1⟩, e0, e1, e2, e3⟩
    obtain ⟨q, hq⟩ : ∃ q : Nat → Hp, ∀ i, i < n → ((q i).cmd.size ≤ maxLen ∧ (q i).out.size ≤ maxLen) ∧ W.cell? ⟨g, o + i * 4, none⟩ = some (.string (q i).cmd) ∧ W.cell? ⟨g, o + i * 4 + 1, none⟩ = some (.string (q i).out) ∧ W.cell? ⟨g, o + i * 4 + 2, none⟩ = some (.bool (q i).fails) ∧ W.cell? ⟨g, o + i * 4 + 3, none⟩ = some (.int .i64 (q i).ticks) := by
      refine ⟨fun i => if hi : i < n then (each i hi).choose else ⟨⟨#[]⟩, ⟨#[]⟩, false, 0⟩, fun i hi => ?_⟩
      simp only [dif_pos hi]
      exact (each i hi).choose_spec
    refine ⟨(List.range n).map q, ⟨by simp, .inr ⟨g, o, rfl, hlt, fun k h hk => ?_⟩⟩, fun h hh => ?_⟩
    · rw [List.getElem?_map] at hk
      cases hr : (List.range n)[k]? with
      | none => rw [hr] at hk; cases hk
      | some j =>
        rw [hr] at hk
        have hkn : k < n := by have := (List.getElem?_eq_some_iff.1 hr).1; simpa using this
        have hj : j = k := by
          have := (List.getElem?_eq_some_iff.1 hr).2
          simpa using this.symm
        subst hj
        simp at hk
        subst hk
        exact (hq j hkn).2
    · obtain ⟨j, hj, rfl⟩ := List.mem_map.1 hh
      exact (hq j (List.mem_range.1 hj)).1

end Go.Proofs.YtgjnohkcnfdmkaaDoor
