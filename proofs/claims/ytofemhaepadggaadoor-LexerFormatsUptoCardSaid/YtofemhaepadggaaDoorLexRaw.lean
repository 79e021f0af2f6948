/-
  TOKENS THAT COME IN AS AN ARGUMENT, READ OUT OF THE ROW's READING, within a bulk; the wrap of a row with a condition.
-/
import Derived.Test.YtofemhaepadggaaDoorLexSep
import Derived.Test.YtofemhaepadggaaDoorRows
import Derived.Deep.Slices
import Derived.Lib.SmallJoins
import Derived.Deep.DeepHandedRow
namespace Go.Proofs.YtofemhaepadggaaDoor
open Go.RowKit Go.WideShapes

theorem add_none (g o n : Nat) : (⟨g, o, none⟩ : Addr).add n = ⟨g, o + n, none⟩ := by
  unfold Addr.add
  split
  · rename_i h; rw [h]; rfl
  · rfl
set_option maxRecDepth 100000 in
theorem raw_spot {W : World} {base : Nat} {a : Addr} {n c : Nat} (h : Value.okWide Tryd.prog W .any base 26 (.slice (some a) n c)) : a.spot = none ∧ a.block < W.heap.size := by
  simp only [Value.okWide, Tryd.underlying26, Cell.okWide] at h
  simp [Cell.ok, Tryd.underlying26, World.has] at h
  obtain ⟨_, _, _, hs, x, y, hsh, _⟩ := h
  refine ⟨hs, ?_⟩
  unfold World.shape? at hsh
  cases hb : W.heap[a.block]? with
  | none => rw [hb] at hsh; simp at hsh
  | some _ => exact (Array.getElem?_eq_some_iff.1 hb).1
theorem bulk_mem {H : Type} : ∀ (l : List (DataW H)) (d : DataW H), d ∈ l → Rows.uptoBulk d ≤ Rows.uptoBulkAll l
  | [], d, h => by cases h
  | a :: l, d, h => by
    rw [Rows.uptoBulkAll]
    rcases List.mem_cons.1 h with rfl | h
    · omega
    · have := bulk_mem l d h
      omega
theorem bulk_str {H : Type} (s : ByteArray) : s.size ≤ Rows.uptoBulk (DataW.lit (.string s.data.toList) : DataW H) := by
  rw [Rows.uptoBulk]
  show s.data.size ≤ _
  rw [← Array.length_toList]
  omega

set_option maxRecDepth 100000 in
theorem open_raw {H : Type} {enc : TypeId × Value → H} {W : World} {base : Nat} {fuel : Nat} {a : Option Addr} {n c : Nat} {x : DataW H × List MemPlace} {N : Nat}
    (hv : Value.okWide Tryd.prog W .any base 26 (.slice a n c))
    (h : DataW.trod enc Tryd.prog W 0 (fun _ => true) true fuel 26 [.slice a n c] = some x) (hN : Rows.uptoBulk x.1 ≤ N) :
    ∃ l : List TB, l.length = n ∧ TokRow W (.slice a n c) l ∧ ∀ y ∈ l, y.k.size ≤ N ∧ y.n.size ≤ N ∧ y.o.size ≤ N ∧ y.v.size ≤ N := by
  rcases Go.Deep.open_slice Tryd.underlying26 h with ⟨hcs, _⟩ | ⟨y, len, cap, m, N', D, Pl, hcs, hb, hl, hm, hmm, hxx, hel⟩
  · simp at hcs
    obtain ⟨rfl, rfl, rfl⟩ := hcs
    exact ⟨[], rfl, .inl ⟨rfl, rfl⟩, fun h hh => absurd hh List.not_mem_nil⟩
  · simp at hcs
    obtain ⟨rfl, rfl, rfl⟩ := hcs
    obtain ⟨hsp, hlt⟩ := raw_spot hv
    obtain ⟨g, o, sp⟩ := y
    simp only at hsp hlt
    subst hsp
    have hlm : n ≤ m := by rw [hmm]; split <;> omega
    have c4 : Tryd.prog.cellsOf 40 = 4 := by kernel_rfl
    have c1 : Tryd.prog.cellsOf 9 = 1 := by kernel_rfl
    have hbD : ∀ i, i < n → Rows.uptoBulk (D i) ≤ N := fun i hi => by
      have h1 := bulk_mem ((List.range n).map D) (D i) (List.mem_map.2 ⟨i, List.mem_range.2 hi, rfl⟩)
      rw [hxx] at hN
      simp only [Rows.uptoBulk] at hN
      omega
    have each : ∀ i, i < n → ∃ h : TB, (h.k.size ≤ N ∧ h.n.size ≤ N ∧ h.o.size ≤ N ∧ h.v.size ≤ N) ∧ W.cell? ⟨g, o + i * 4, none⟩ = some (.string h.k) ∧ W.cell? ⟨g, o + i * 4 + 1, none⟩ = some (.string h.n) ∧ W.cell? ⟨g, o + i * 4 + 2, none⟩ = some (.string h.o) ∧ W.cell? ⟨g, o + i * 4 + 3, none⟩ = some (.string h.v) := by
      intro i hi
      obtain ⟨cs', h1, h2⟩ := hel i (by omega)
      rw [c4, add_none] at h1
      obtain ⟨_, hlen, hcell⟩ := World.cells?_some h1
      obtain ⟨y0, y1, y2, y3, k, hag, _, t0, t1, t2, t3⟩ := Go.Joins.trod_struct4 Tryd.underlying40 h2
      have hD : D i = .agg [y0.1, y1.1, y2.1, y3.1] := congrArg Prod.fst hag
      have hb0 := hbD i hi
      rw [hD] at hb0
      simp only [Rows.uptoBulk, Rows.uptoBulkAll] at hb0
      match cs', hlen with
      | [v0, v1, v2, v3], _ =>
        have e0 := hcell 0 (by omega)
        have e1 := hcell 1 (by omega)
        have e2 := hcell 2 (by omega)
        have e3 := hcell 3 (by omega)
        rw [add_none] at e0 e1 e2 e3
        simp [c1] at t0 t1 t2 t3 e0 e1 e2 e3
        obtain ⟨s0, q0, r0, _⟩ := DataW.trod_string Tryd.underlying9 t0
        obtain ⟨s1, q1, r1, _⟩ := DataW.trod_string Tryd.underlying9 t1
        obtain ⟨s2, q2, r2, _⟩ := DataW.trod_string Tryd.underlying9 t2
        obtain ⟨s3, q3, r3, _⟩ := DataW.trod_string Tryd.underlying9 t3
        simp at q0 q1 q2 q3
        subst q0 q1 q2 q3
        have b0 := bulk_str (H := H) s0
        have b1 := bulk_str (H := H) s1
        have b2 := bulk_str (H := H) s2
        have b3 := bulk_str (H := H) s3
        rw [r0, r1, r2, r3] at hb0
        simp only at hb0
        exact ⟨⟨s0, s1, s2, s3⟩, ⟨by show s0.size ≤ _; omega, by show s1.size ≤ _; omega, by show s2.size ≤ _; omega, by show s3.size ≤ _; omega⟩, e0, e1, e2, e3⟩
    obtain ⟨q, hq⟩ : ∃ q : Nat → TB, ∀ i, i < n → ((q i).k.size ≤ N ∧ (q i).n.size ≤ N ∧ (q i).o.size ≤ N ∧ (q i).v.size ≤ N) ∧ W.cell? ⟨g, o + i * 4, none⟩ = some (.string (q i).k) ∧ W.cell? ⟨g, o + i * 4 + 1, none⟩ = some (.string (q i).n) ∧ W.cell? ⟨g, o + i * 4 + 2, none⟩ = some (.string (q i).o) ∧ W.cell? ⟨g, o + i * 4 + 3, none⟩ = some (.string (q i).v) := by
      refine ⟨fun i => if hi : i < n then (each i hi).choose else ⟨⟨#[]⟩, ⟨#[]⟩, ⟨#[]⟩, ⟨#[]⟩⟩, fun i hi => ?_⟩
      simp only [dif_pos hi]
      exact (each i hi).choose_spec
    refine ⟨(List.range n).map q, by simp, .inr ⟨g, o, c, by simp, hlt, fun k h hk => ?_⟩, fun h hh => ?_⟩
    · rw [List.getElem?_map] at hk
      cases hr : (List.range n)[k]? with
      | none => rw [hr] at hk; cases hk
      | some j =>
        rw [hr] at hk
        have hkn : k < n := by have := (List.getElem?_eq_some_iff.1 hr).1; simpa using this
        have hj : j = k := by
          have := (List.getElem?_eq_some_iff.1 hr).2
          simpa using this.symm
        subst hj
        simp at hk
        subst hk
        exact (hq j hkn).2
    · obtain ⟨j, hj, rfl⟩ := List.mem_map.1 hh
      exact (hq j (List.mem_range.1 hj)).1

theorem three_cells (V0 V1 V2 : Value) (W : World) (t : TypeId) (k : Nat) (hk : k < 3) : ∃ V : Value, ((k = 0 ∧ V = V0) ∨ (k = 1 ∧ V = V1) ∨ (k = 2 ∧ V = V2)) ∧ (W.alloc (.cells #[V0, V1, V2] t)).cell? ⟨W.heap.size, k, none⟩ = some V := by
  match k with
  | 0 => exact ⟨V0, .inl ⟨rfl, rfl⟩, by simp⟩
  | 1 => exact ⟨V1, .inr (.inl ⟨rfl, rfl⟩), by simp⟩
  | 2 => exact ⟨V2, .inr (.inr ⟨rfl, rfl⟩), by simp⟩
  | k + 3 => omega
/-- A row of one token, new. -/
theorem TokAt.new (a b c d : ByteArray) (W : World) (cap : Nat) : TokAt (W.alloc (.cells (tokC a b c d) 40)) (.slice (some ⟨W.heap.size, 0, none⟩) 1 cap) [⟨a, b, c, d⟩] := by
  have hB : Blk (W.alloc (.cells (tokC a b c d) 40)) W.heap.size 40 (tokC a b c d) := Blk.new _ _ _
  refine ⟨by simp, .inr ⟨W.heap.size, 0, cap, rfl, hB.lt, fun k x hx => ?_⟩⟩
  cases k with
  | zero =>
    simp at hx
    subst hx
    exact ⟨(hB.cell 0).trans rfl, (hB.cell 1).trans rfl, (hB.cell 2).trans rfl, (hB.cell 3).trans rfl⟩
  | succ k => simp at hx

end Go.Proofs.YtofemhaepadggaaDoor
