/-
  TERMS THAT COME IN AS AN ARGUMENT, READ OUT OF THE ROW's READING.
-/
import Derived.Test.YtinjeijjfkkhbaaGreatDoorMatchHolds
import Derived.Deep.Slices
import Derived.Deep.Fields
import Derived.Lib.SmallJoins
namespace Go.Proofs.YtinjeijjfkkhbaaGreatDoor
open Go.RowKit Go.WideShapes Go.Deep Go.ChangeShapes

theorem add_at (g o n : Nat) : (⟨g, o, none⟩ : Addr).add n = ⟨g, o + n, none⟩ := by
  unfold Addr.add
  split
  · rename_i h; rw [h]; rfl
  · rfl
set_option maxRecDepth 100000 in
theorem raw_spot {W : World} {base : Nat} {a : Addr} {n c : Nat} (h : Value.okWide Tryz.prog W .any base 23 (.slice (some a) n c)) : a.spot = none ∧ a.block < W.heap.size := by
  simp only [Value.okWide, Tryz.underlying23, Cell.okWide] at h
  simp [Cell.ok, Tryz.underlying23, World.has] at h
  obtain ⟨_, _, _, hs, x, y, hsh, _⟩ := h
  refine ⟨hs, ?_⟩
  unfold World.shape? at hsh
  cases hb : W.heap[a.block]? with
  | none => rw [hb] at hsh; simp at hsh
  | some _ => exact (Array.getElem?_eq_some_iff.1 hb).1

set_option maxRecDepth 100000 in
theorem open_trms {H : Type} {enc : TypeId × Value → H} {W : World} {base : Nat} {fuel : Nat} {a : Option Addr} {n c : Nat} {x : DataW H × List MemPlace}
    (hv : Value.okWide Tryz.prog W .any base 23 (.slice a n c))
    (h : DataW.trod enc Tryz.prog W 0 (fun _ => true) true fuel 23 [.slice a n c] = some x) :
    ∃ l : List Trm, TrmsAt W (.slice a n c) l ∧ l.length = n ∧ ∀ t ∈ l, t.v.size ≤ maxLen := by
  rcases Go.Deep.open_slice Tryz.underlying23 h with ⟨hcs, _⟩ | ⟨y, len, cap, m, N, D, Pl, hcs, hb, hl, hm, hmm, _, hel⟩
  · simp at hcs
    obtain ⟨rfl, rfl, rfl⟩ := hcs
    exact ⟨[], ⟨by simp, .inl ⟨rfl, rfl⟩⟩, rfl, fun h hh => absurd hh List.not_mem_nil⟩
  · simp at hcs
    obtain ⟨rfl, rfl, rfl⟩ := hcs
    obtain ⟨hsp, hlt⟩ := raw_spot hv
    obtain ⟨g, o, sp⟩ := y
    simp only at hsp hlt
    subst hsp
    have hlm : n ≤ m := by rw [hmm]; split <;> omega
    have c4 : Tryz.prog.cellsOf 46 = 4 := by kernel_rfl
    have c1 : Tryz.prog.cellsOf 9 = 1 := by kernel_rfl
    have c3 : Tryz.prog.cellsOf 3 = 1 := by kernel_rfl
    have each : ∀ i, i < n → ∃ h : Trm, h.v.size ≤ maxLen ∧ W.cell? ⟨g, o + i * 4, none⟩ = some (.int .i64 h.k) ∧ W.cell? ⟨g, o + i * 4 + 1, none⟩ = some (.string h.n) ∧ W.cell? ⟨g, o + i * 4 + 2, none⟩ = some (.int .i64 h.o) ∧ W.cell? ⟨g, o + i * 4 + 3, none⟩ = some (.string h.v) := by
      intro i hi
      obtain ⟨cs', h1, h2⟩ := hel i (by omega)
      rw [c4, add_at] at h1
      obtain ⟨_, hlen, hcell⟩ := World.cells?_some h1
      obtain ⟨y0, y1, y2, y3, k, _, _, t0, t1, t2, t3⟩ := Go.Joins.trod_struct4 Tryz.underlying46 h2
      match cs', hlen with
      | [v0, v1, v2, v3], _ =>
        have e0 := hcell 0 (by omega)
        have e1 := hcell 1 (by omega)
        have e2 := hcell 2 (by omega)
        have e3 := hcell 3 (by omega)
        rw [add_at] at e0 e1 e2 e3
        simp [c1, c3] at t0 t1 t2 t3 e0 e1 e2 e3
        obtain ⟨z0, q0, _, _⟩ := DataW.trod_int Tryz.underlying3 t0
        obtain ⟨s1, q1, _, _⟩ := DataW.trod_string Tryz.underlying9 t1
        obtain ⟨z2, q2, _, _⟩ := DataW.trod_int Tryz.underlying3 t2
        obtain ⟨s3, q3, _, w3⟩ := DataW.trod_string Tryz.underlying9 t3
        simp at q0 q1 q2 q3
        subst q0 q1 q2 q3
        exact ⟨⟨z0, s1, z2, s3⟩, w3, e0, e1, e2, e3⟩
    obtain ⟨q, hq⟩ : ∃ q : Nat → Trm, ∀ i, i < n → (q i).v.size ≤ maxLen ∧ W.cell? ⟨g, o + i * 4, none⟩ = some (.int .i64 (q i).k) ∧ W.cell? ⟨g, o + i * 4 + 1, none⟩ = some (.string (q i).n) ∧ W.cell? ⟨g, o + i * 4 + 2, none⟩ = some (.int .i64 (q i).o) ∧ W.cell? ⟨g, o + i * 4 + 3, none⟩ = some (.string (q i).v) := by
      refine ⟨fun i => if hi : i < n then (each i hi).choose else ⟨0, ⟨#[]⟩, 0, ⟨#[]⟩⟩, fun i hi => ?_⟩
      simp only [dif_pos hi]
      exact (each i hi).choose_spec
    have h9 : n ≤ 9223372036854775807 := by simp only [maxLen] at hm; omega
    refine ⟨(List.range n).map q, ⟨by simp; omega, .inr ⟨g, o, c, by simp, hlt, fun k xs hk j u hu => ?_⟩⟩, by simp, fun h hh => ?_⟩
    · rw [List.map_map, List.getElem?_map] at hk
      cases hr : (List.range n)[k]? with
      | none => rw [hr] at hk; cases hk
      | some i =>
        rw [hr] at hk
        have hkn : k < n := by have := (List.getElem?_eq_some_iff.1 hr).1; simpa using this
        have hj : i = k := by
          have := (List.getElem?_eq_some_iff.1 hr).2
          simpa using this.symm
        subst hj
        obtain ⟨_, e0, e1, e2, e3⟩ := hq i hkn
        simp at hk
        subst hk
        match j with
        | 0 => simp [trmC] at hu; subst hu; exact e0
        | 1 => simp [trmC] at hu; subst hu; exact e1
        | 2 => simp [trmC] at hu; subst hu; exact e2
        | 3 => simp [trmC] at hu; subst hu; exact e3
        | j + 4 => simp [trmC] at hu
    · obtain ⟨j, hj, rfl⟩ := List.mem_map.1 hh
      exact (hq j (List.mem_range.1 hj)).1

end Go.Proofs.YtinjeijjfkkhbaaGreatDoor
