/-
  ARGUMENTS THAT ARE STRUCTS: a term, a device, a draft, read out of the row's reading.
-/
import Derived.Test.YtfihccfjboopiaaMatchDraft
import Derived.Test.YtfihccfjboopiaaMatchDevice
import Derived.Deep.Slices
import Derived.Deep.Fields
import Derived.Lib.SmallJoins
namespace Go.Proofs.Ytfihccfjboopiaa
open Go.RowKit Go.WideShapes Go.Deep Go.ChangeShapes

/-- A slice whose elements are rows of sz cells, however long. -/
def RawAt (w : World) (v : Value) (sz : Nat) (l : List (List Value)) : Prop :=
  (v = .slice none 0 0 ∧ l = []) ∨ ∃ g o cap, v = .slice (some ⟨g, o, none⟩) l.length cap ∧ g < w.heap.size ∧
    ∀ (k : Nat) (xs : List Value), l[k]? = some xs → ∀ (j : Nat) (u : Value), xs[j]? = some u → w.cell? ⟨g, o + k * sz + j, none⟩ = some u
theorem RawAt.row {w : World} {v : Value} {sz : Nat} {l : List (List Value)} (h : RawAt w v sz l) (h9 : l.length ≤ 9223372036854775807) : RowAt w v sz l := ⟨h9, h⟩
theorem RawAt.shape {w : World} {v : Value} {sz : Nat} {l : List (List Value)} (h : RawAt w v sz l) : ∃ p c, v = .slice p l.length c ∧ (p = none ∨ ∃ g o, p = some ⟨g, o, none⟩ ∧ g < w.heap.size) := by
  rcases h with ⟨rfl, rfl⟩ | ⟨g, o, cap, rfl, hg, _⟩
  · exact ⟨none, 0, rfl, .inl rfl⟩
  · exact ⟨_, cap, rfl, .inr ⟨g, o, rfl, hg⟩⟩
theorem addn (g o n : Nat) : (⟨g, o, none⟩ : Addr).add n = ⟨g, o + n, none⟩ := by
  unfold Addr.add
  split
  · rename_i h; rw [h]; rfl
  · rfl

section
variable {H : Type} {enc : TypeId × Value → H} {W : World} {b0 : Nat}
set_option maxRecDepth 100000 in
theorem cell_spot {t e : TypeId} {base : Nat} {a : Addr} {n c : Nat} (ht : Try.prog.underlying t = some (.slice e)) (h : Cell.okWide Try.prog W .any base t (.slice (some a) n c)) : a.spot = none ∧ a.block < W.heap.size := by
  simp only [Cell.okWide] at h
  simp [Cell.ok, ht, World.has] at h
  obtain ⟨_, _, _, hs, x, y, hsh, _⟩ := h
  refine ⟨hs, ?_⟩
  unfold World.shape? at hsh
  cases hb : W.heap[a.block]? with
  | none => rw [hb] at hsh; simp at hsh
  | some _ => exact (Array.getElem?_eq_some_iff.1 hb).1

set_option maxRecDepth 100000 in
/-- A struct of one-cell fields, by value, opened. -/
theorem open_any {t : TypeId} {fs : Array Field} {ts : List TypeId} {v : Value} {d : DataW H} {p : List MemPlace} {sp : Nat → Bool} {hd : Bool} {N : Nat}
    (hs : Try.prog.underlying t = some (.struct fs)) (hone : oneCellFields Try.prog fs = true) (hC : Try.prog.cellsOf t = N) (hN : fs.size = N) (hts : Try.prog.cellTypes Try.prog.depth t = some ts) (htt : fs.toList.map (·.type) = ts)
    (hv : Value.okWide Try.prog W .any b0 t v) (h : DataW.Trod enc Try.prog W 0 sp hd t v d p) :
    ∃ cs : Array Value, v = .agg cs ∧ cs.size = N ∧ ∀ (j : Nat) (c : Value) (u : TypeId), cs[j]? = some c → ts[j]? = some u → Cell.okWide Try.prog W .any b0 u c ∧ ∃ (n : Nat) (y : DataW H × List MemPlace), DataW.trod enc Try.prog W 0 sp hd n u [c] = some y := by
  have htl : ts.length = N := by rw [← htt, ← hN]; simp
  simp only [Value.okWide, hs] at hv
  obtain ⟨cs, rfl, hsz, ts', hts', _, hrow⟩ := hv
  obtain rfl : ts' = ts := Option.some.inj (hts'.symm.trans hts)
  obtain ⟨fuel, hf⟩ := h
  obtain ⟨xs, n, _, _, hl, hlen, hg⟩ := DataW.trod_struct hs hf
  refine ⟨cs, rfl, hsz.trans hC, fun j c u hj hu => ⟨?_, ?_⟩⟩
  · obtain ⟨u', hu', hok⟩ := hrow j c hj
    have hjl : j < cs.size := (Array.getElem?_eq_some_iff.1 hj).1
    rw [Nat.mod_eq_of_lt (by omega)] at hu'
    obtain rfl : u' = u := Option.some.inj (hu'.symm.trans hu)
    exact hok
  · have hjl : j < cs.size := (Array.getElem?_eq_some_iff.1 hj).1
    have hjf : j < fs.size := by omega
    have hfj : fs[j]? = some fs[j] := Array.getElem?_eq_getElem hjf
    obtain ⟨ho, hk⟩ := hone_of hone j _ hfj
    have h1 := hg j _ hfj
    rw [ho, hk] at h1
    have hft : fs[j].type = u := by
      rw [← htt, List.getElem?_map, Array.getElem?_toList, hfj] at hu
      simpa using hu
    rw [hft] at h1
    have hcl : (cs.toList.drop j).take 1 = [c] := by
      have : cs.toList[j]? = some c := by simpa using hj
      obtain ⟨hlt, e⟩ := List.getElem?_eq_some_iff.1 this
      rw [List.drop_eq_getElem_cons hlt, e]
      rfl
    have hcells : (Value.agg cs).cells = cs := rfl
    rw [hcells, hcl, List.getElem?_eq_getElem (by omega)] at h1
    exact ⟨n, _, h1⟩

set_option maxRecDepth 100000 in
/-- A slice of attributes in a field. -/
theorem open_atts {base : Nat} {fuel : Nat} {c : Value} {y : DataW H × List MemPlace} {sp : Nat → Bool} {hd : Bool} (hv : Cell.okWide Try.prog W .any base 24 c) (h : DataW.trod enc Try.prog W 0 sp hd fuel 24 [c] = some y) :
    ∃ l : List Att, RawAt W c 2 (l.map attC) ∧ (∀ x ∈ l, x.2.size ≤ maxLen) ∧ l.length ≤ maxLen := by
  rcases Go.Deep.open_slice Try.underlying24 h with ⟨hcs, _⟩ | ⟨a, len, cap, m, N, D, Pl, hcs, hb, hl, hm, hmm, _, hel⟩
  · simp at hcs
    subst hcs
    exact ⟨[], .inl ⟨rfl, rfl⟩, (fun x hx => by cases hx), Nat.zero_le _⟩
  · simp at hcs
    subst hcs
    obtain ⟨hsp, hlt⟩ := cell_spot Try.underlying24 hv
    obtain ⟨g, o, sp'⟩ := a
    simp only at hsp hlt
    subst hsp
    have hlm : len ≤ m := by rw [hmm]; split <;> omega
    have c4 : Try.prog.cellsOf 40 = 2 := by kernel_rfl
    have c1 : Try.prog.cellsOf 9 = 1 := by kernel_rfl
    have each : ∀ i, i < len → ∃ x : Att, x.2.size ≤ maxLen ∧ W.cell? ⟨g, o + i * 2, none⟩ = some (.string x.1) ∧ W.cell? ⟨g, o + i * 2 + 1, none⟩ = some (.string x.2) := by
      intro i hi
      obtain ⟨cs', h1, h2⟩ := hel i (by omega)
      rw [c4, addn] at h1
      obtain ⟨_, hlen, hcell⟩ := World.cells?_some h1
      obtain ⟨y0, y1, k, _, _, t0, t1⟩ := Go.ChangeShapes.trod_struct2 Try.underlying40 h2
      match cs', hlen with
      | [v0, v1], _ =>
        have e0 := hcell 0 (by omega)
        have e1 := hcell 1 (by omega)
        rw [addn] at e0 e1
        simp [c1] at t0 t1 e0 e1
        obtain ⟨s0, q0, _, z0⟩ := DataW.trod_string Try.underlying9 t0
        obtain ⟨s1, q1, _, z1⟩ := DataW.trod_string Try.underlying9 t1
        simp at q0 q1
        subst q0 q1
        exact ⟨(s0, s1), z1, e0, e1⟩
    obtain ⟨q, hq⟩ : ∃ q : Nat → Att, ∀ i, i < len → (q i).2.size ≤ maxLen ∧ W.cell? ⟨g, o + i * 2, none⟩ = some (.string (q i).1) ∧ W.cell? ⟨g, o + i * 2 + 1, none⟩ = some (.string (q i).2) := by
      refine ⟨fun i => if hi : i < len then (each i hi).choose else (⟨#[]⟩, ⟨#[]⟩), fun i hi => ?_⟩
      simp only [dif_pos hi]
      exact (each i hi).choose_spec
    refine ⟨(List.range len).map q, .inr ⟨g, o, cap, by simp, hlt, fun k xs hk j u hu => ?_⟩, (fun x hx => ?_), by simp; omega⟩
    · rw [List.map_map, List.getElem?_map] at hk
      cases hr : (List.range len)[k]? with
      | none => rw [hr] at hk; cases hk
      | some i =>
        rw [hr] at hk
        have hkn : k < len := by have := (List.getElem?_eq_some_iff.1 hr).1; simpa using this
        have hj : i = k := by
          have := (List.getElem?_eq_some_iff.1 hr).2
          simpa using this.symm
        subst hj
        obtain ⟨_, e0, e1⟩ := hq i hkn
        simp at hk
        subst hk
        match j with
        | 0 => simp [attC] at hu; subst hu; exact e0
        | 1 => simp [attC] at hu; subst hu; exact e1
        | j + 2 => simp [attC] at hu
    · obtain ⟨j, hj, rfl⟩ := List.mem_map.1 hx
      exact (hq j (List.mem_range.1 hj)).1

set_option maxRecDepth 100000 in
/-- A slice of texts in a field. -/
theorem open_strs {base : Nat} {fuel : Nat} {c : Value} {y : DataW H × List MemPlace} {sp : Nat → Bool} {hd : Bool} (hv : Cell.okWide Try.prog W .any base 25 c) (h : DataW.trod enc Try.prog W 0 sp hd fuel 25 [c] = some y) :
    ∃ l : List ByteArray, RawAt W c 1 (l.map fun s => [.string s]) ∧ (∀ x ∈ l, x.size ≤ maxLen) ∧ l.length ≤ maxLen := by
  rcases Go.Deep.open_slice Try.underlying25 h with ⟨hcs, _⟩ | ⟨a, len, cap, m, N, D, Pl, hcs, hb, hl, hm, hmm, _, hel⟩
  · simp at hcs
    subst hcs
    exact ⟨[], .inl ⟨rfl, rfl⟩, (fun x hx => by cases hx), Nat.zero_le _⟩
  · simp at hcs
    subst hcs
    obtain ⟨hsp, hlt⟩ := cell_spot Try.underlying25 hv
    obtain ⟨g, o, sp'⟩ := a
    simp only at hsp hlt
    subst hsp
    have hlm : len ≤ m := by rw [hmm]; split <;> omega
    have c1 : Try.prog.cellsOf 9 = 1 := by kernel_rfl
    have each : ∀ i, i < len → ∃ x : ByteArray, x.size ≤ maxLen ∧ W.cell? ⟨g, o + i, none⟩ = some (.string x) := by
      intro i hi
      obtain ⟨cs', h1, h2⟩ := hel i (by omega)
      rw [c1, addn] at h1
      obtain ⟨_, hlen, hcell⟩ := World.cells?_some h1
      match cs', hlen with
      | [v0], _ =>
        have e0 := hcell 0 (by omega)
        rw [addn] at e0
        simp at e0
        obtain ⟨s0, q0, _, z0⟩ := DataW.trod_string Try.underlying9 h2
        simp at q0
        subst q0
        exact ⟨s0, z0, e0⟩
    obtain ⟨q, hq⟩ : ∃ q : Nat → ByteArray, ∀ i, i < len → (q i).size ≤ maxLen ∧ W.cell? ⟨g, o + i, none⟩ = some (.string (q i)) := by
      refine ⟨fun i => if hi : i < len then (each i hi).choose else ⟨#[]⟩, fun i hi => ?_⟩
      simp only [dif_pos hi]
      exact (each i hi).choose_spec
    refine ⟨(List.range len).map q, .inr ⟨g, o, cap, by simp, hlt, fun k xs hk j u hu => ?_⟩, (fun x hx => ?_), by simp; omega⟩
    · rw [List.map_map, List.getElem?_map] at hk
      cases hr : (List.range len)[k]? with
      | none => rw [hr] at hk; cases hk
      | some i =>
        rw [hr] at hk
        have hkn : k < len := by have := (List.getElem?_eq_some_iff.1 hr).1; simpa using this
        have hj : i = k := by
          have := (List.getElem?_eq_some_iff.1 hr).2
          simpa using this.symm
        subst hj
        obtain ⟨_, e0⟩ := hq i hkn
        simp at hk
        subst hk
        match j with
        | 0 => simp at hu; subst hu; rw [Nat.mul_one, Nat.add_zero]; exact e0
        | j + 1 => simp at hu
    · obtain ⟨j, hj, rfl⟩ := List.mem_map.1 hx
      exact (hq j (List.mem_range.1 hj)).1

theorem array_at {α : Type} {cs : Array α} {N : Nat} (h : cs.size = N) {j : Nat} (hj : j < N) : ∃ c, cs[j]? = some c := ⟨_, Array.getElem?_eq_getElem (by omega)⟩
theorem array_of {α : Type} {cs : Array α} {l : List α} (h : cs.size = l.length) (hl : ∀ (j : Nat) (c : α), l[j]? = some c → cs[j]? = some c) : cs = l.toArray := by
  apply Array.ext
  · simpa using h
  · intro i h1 h2
    have h3 : i < l.length := by simpa using h2
    have := hl i _ (List.getElem?_eq_getElem h3)
    rw [Array.getElem?_eq_getElem h1] at this
    simpa using this

set_option maxRecDepth 100000 in
theorem raw_term {v : Value} {d : DataW H} {p : List MemPlace} {sp : Nat → Bool} {hd : Bool} (hv : Value.okWide Try.prog W .any b0 23 v) (h : DataW.Trod enc Try.prog W 0 sp hd 23 v d p) :
    ∃ (k : Int) (n : ByteArray) (o : Int) (s : ByteArray), v = termV k n o s ∧ s.size ≤ maxLen := by
  obtain ⟨v0, v1, v2, v3, y0, y1, y2, y3, n, rfl, _, _, h0, h1, h2, h3⟩ := Go.Joins.open_agg4 Try.underlying23 (by kernel_rfl) (by kernel_rfl) hv h
  obtain ⟨k, e0, _⟩ := DataW.trod_int Try.underlying3 h0
  obtain ⟨nm, e1, _⟩ := DataW.trod_string Try.underlying9 h1
  obtain ⟨o, e2, _⟩ := DataW.trod_int Try.underlying3 h2
  obtain ⟨s, e3, _, z⟩ := DataW.trod_string Try.underlying9 h3
  simp at e0 e1 e2 e3
  subst e0 e1 e2 e3
  exact ⟨k, nm, o, s, rfl, z⟩

set_option maxRecDepth 100000 in
set_option maxHeartbeats 1000000 in
theorem raw_draft2 {v : Value} {d : DataW H} {p : List MemPlace} {sp : Nat → Bool} {hd : Bool} (hv : Value.okWide Try.prog W .any b0 28 v) (h : DataW.Trod enc Try.prog W 0 sp hd 28 v d p) :
    ∃ x : Dft, v = .agg (dftC x) ∧ DftFit x ∧ RawAt W x.pv 2 (x.pl.map attC) ∧ RawAt W x.tv 1 (x.tl.map fun s => [.string s]) ∧ x.pl.length ≤ maxLen ∧ x.tl.length ≤ maxLen := by
  obtain ⟨cs, rfl, hsz, hc⟩ := open_any (N := 14) (ts := [24, 25, 25, 25, 25, 9, 3, 9, 9, 3, 9, 3, 3, 26]) Try.underlying28 (by kernel_rfl) (by kernel_rfl) (by kernel_rfl) (by kernel_rfl) (by kernel_rfl) hv h
  obtain ⟨c0, h0⟩ := array_at hsz (show 0 < 14 by decide)
  obtain ⟨k0, n0, y0, t0⟩ := hc 0 c0 _ h0 rfl
  obtain ⟨l0, r0, z0, m0⟩ := open_atts k0 t0
  obtain ⟨c1, h1⟩ := array_at hsz (show 1 < 14 by decide)
  obtain ⟨k1, n1, y1, t1⟩ := hc 1 c1 _ h1 rfl
  obtain ⟨l1, r1, z1, m1⟩ := open_strs k1 t1
  obtain ⟨c2, h2⟩ := array_at hsz (show 2 < 14 by decide)
  obtain ⟨c3, h3⟩ := array_at hsz (show 3 < 14 by decide)
  obtain ⟨c4, h4⟩ := array_at hsz (show 4 < 14 by decide)
  obtain ⟨c5, h5⟩ := array_at hsz (show 5 < 14 by decide)
  obtain ⟨_, n5, y5, t5⟩ := hc 5 c5 _ h5 rfl
  obtain ⟨s5, e5, _, z5⟩ := DataW.trod_string Try.underlying9 t5
  simp at e5
  subst e5
  obtain ⟨c6, h6⟩ := array_at hsz (show 6 < 14 by decide)
  obtain ⟨_, n6, y6, t6⟩ := hc 6 c6 _ h6 rfl
  obtain ⟨i6, e6, _⟩ := DataW.trod_int Try.underlying3 t6
  simp at e6
  subst e6
  obtain ⟨c7, h7⟩ := array_at hsz (show 7 < 14 by decide)
  obtain ⟨_, n7, y7, t7⟩ := hc 7 c7 _ h7 rfl
  obtain ⟨s7, e7, _, z7⟩ := DataW.trod_string Try.underlying9 t7
  simp at e7
  subst e7
  obtain ⟨c8, h8⟩ := array_at hsz (show 8 < 14 by decide)
  obtain ⟨_, n8, y8, t8⟩ := hc 8 c8 _ h8 rfl
  obtain ⟨s8, e8, _, z8⟩ := DataW.trod_string Try.underlying9 t8
  simp at e8
  subst e8
  obtain ⟨c9, h9⟩ := array_at hsz (show 9 < 14 by decide)
  obtain ⟨_, n9, y9, t9⟩ := hc 9 c9 _ h9 rfl
  obtain ⟨i9, e9, _⟩ := DataW.trod_int Try.underlying3 t9
  simp at e9
  subst e9
  obtain ⟨c10, h10⟩ := array_at hsz (show 10 < 14 by decide)
  obtain ⟨_, n10, y10, t10⟩ := hc 10 c10 _ h10 rfl
  obtain ⟨s10, e10, _, z10⟩ := DataW.trod_string Try.underlying9 t10
  simp at e10
  subst e10
  obtain ⟨c11, h11⟩ := array_at hsz (show 11 < 14 by decide)
  obtain ⟨_, n11, y11, t11⟩ := hc 11 c11 _ h11 rfl
  obtain ⟨i11, e11, _⟩ := DataW.trod_int Try.underlying3 t11
  simp at e11
  subst e11
  obtain ⟨c12, h12⟩ := array_at hsz (show 12 < 14 by decide)
  obtain ⟨_, n12, y12, t12⟩ := hc 12 c12 _ h12 rfl
  obtain ⟨i12, e12, _⟩ := DataW.trod_int Try.underlying3 t12
  simp at e12
  subst e12
  obtain ⟨c13, h13⟩ := array_at hsz (show 13 < 14 by decide)
  obtain rfl : cs = #[c0, c1, c2, c3, c4, .string s5, .int .i64 i6, .string s7, .string s8, .int .i64 i9, .string s10, .int .i64 i11, .int .i64 i12, c13] := array_of (l := [c0, c1, c2, c3, c4, .string s5, .int .i64 i6, .string s7, .string s8, .int .i64 i9, .string s10, .int .i64 i11, .int .i64 i12, c13]) hsz (fun j c hj => by
    match j with
    | 0 => simp at hj; subst hj; exact h0
    | 1 => simp at hj; subst hj; exact h1
    | 2 => simp at hj; subst hj; exact h2
    | 3 => simp at hj; subst hj; exact h3
    | 4 => simp at hj; subst hj; exact h4
    | 5 => simp at hj; subst hj; exact h5
    | 6 => simp at hj; subst hj; exact h6
    | 7 => simp at hj; subst hj; exact h7
    | 8 => simp at hj; subst hj; exact h8
    | 9 => simp at hj; subst hj; exact h9
    | 10 => simp at hj; subst hj; exact h10
    | 11 => simp at hj; subst hj; exact h11
    | 12 => simp at hj; subst hj; exact h12
    | 13 => simp at hj; subst hj; exact h13
    | j + 14 => simp at hj)
  exact ⟨⟨c0, c1, c2, c3, c4, s5, i6, s7, s8, i9, s10, i11, i12, c13, l0, l1⟩, rfl, ⟨z10, z0, z1⟩, r0, r1, m0, m1⟩

set_option maxRecDepth 100000 in
set_option maxHeartbeats 1000000 in
theorem raw_device2 {v : Value} {d : DataW H} {p : List MemPlace} {sp : Nat → Bool} {hd : Bool} (hv : Value.okWide Try.prog W .any b0 42 v) (h : DataW.Trod enc Try.prog W 0 sp hd 42 v d p) :
    ∃ d : Dev, v = devV d ∧ DevFit d ∧ RawAt W d.atv 2 (d.att.map attC) ∧ d.att.length ≤ maxLen := by
  obtain ⟨cs, rfl, hsz, hc⟩ := open_any (N := 10) (ts := [3, 3, 9, 9, 9, 9, 9, 3, 3, 24]) Try.underlying42 (by kernel_rfl) (by kernel_rfl) (by kernel_rfl) (by kernel_rfl) (by kernel_rfl) hv h
  obtain ⟨c0, h0⟩ := array_at hsz (show 0 < 10 by decide)
  obtain ⟨_, n0, y0, t0⟩ := hc 0 c0 _ h0 rfl
  obtain ⟨i0, e0, _⟩ := DataW.trod_int Try.underlying3 t0
  simp at e0
  subst e0
  obtain ⟨c1, h1⟩ := array_at hsz (show 1 < 10 by decide)
  obtain ⟨_, n1, y1, t1⟩ := hc 1 c1 _ h1 rfl
  obtain ⟨i1, e1, _⟩ := DataW.trod_int Try.underlying3 t1
  simp at e1
  subst e1
  obtain ⟨c2, h2⟩ := array_at hsz (show 2 < 10 by decide)
  obtain ⟨_, n2, y2, t2⟩ := hc 2 c2 _ h2 rfl
  obtain ⟨s2, e2, _, z2⟩ := DataW.trod_string Try.underlying9 t2
  simp at e2
  subst e2
  obtain ⟨c3, h3⟩ := array_at hsz (show 3 < 10 by decide)
  obtain ⟨_, n3, y3, t3⟩ := hc 3 c3 _ h3 rfl
  obtain ⟨s3, e3, _, z3⟩ := DataW.trod_string Try.underlying9 t3
  simp at e3
  subst e3
  obtain ⟨c4, h4⟩ := array_at hsz (show 4 < 10 by decide)
  obtain ⟨_, n4, y4, t4⟩ := hc 4 c4 _ h4 rfl
  obtain ⟨s4, e4, _, z4⟩ := DataW.trod_string Try.underlying9 t4
  simp at e4
  subst e4
  obtain ⟨c5, h5⟩ := array_at hsz (show 5 < 10 by decide)
  obtain ⟨_, n5, y5, t5⟩ := hc 5 c5 _ h5 rfl
  obtain ⟨s5, e5, _, z5⟩ := DataW.trod_string Try.underlying9 t5
  simp at e5
  subst e5
  obtain ⟨c6, h6⟩ := array_at hsz (show 6 < 10 by decide)
  obtain ⟨_, n6, y6, t6⟩ := hc 6 c6 _ h6 rfl
  obtain ⟨s6, e6, _, z6⟩ := DataW.trod_string Try.underlying9 t6
  simp at e6
  subst e6
  obtain ⟨c7, h7⟩ := array_at hsz (show 7 < 10 by decide)
  obtain ⟨_, n7, y7, t7⟩ := hc 7 c7 _ h7 rfl
  obtain ⟨i7, e7, _⟩ := DataW.trod_int Try.underlying3 t7
  simp at e7
  subst e7
  obtain ⟨c8, h8⟩ := array_at hsz (show 8 < 10 by decide)
  obtain ⟨_, n8, y8, t8⟩ := hc 8 c8 _ h8 rfl
  obtain ⟨i8, e8, _⟩ := DataW.trod_int Try.underlying3 t8
  simp at e8
  subst e8
  obtain ⟨c9, h9⟩ := array_at hsz (show 9 < 10 by decide)
  obtain ⟨k9, n9, y9, t9⟩ := hc 9 c9 _ h9 rfl
  obtain ⟨l9, r9, z9, m9⟩ := open_atts k9 t9
  obtain rfl : cs = #[.int .i64 i0, .int .i64 i1, .string s2, .string s3, .string s4, .string s5, .string s6, .int .i64 i7, .int .i64 i8, c9] := array_of (l := [.int .i64 i0, .int .i64 i1, .string s2, .string s3, .string s4, .string s5, .string s6, .int .i64 i7, .int .i64 i8, c9]) hsz (fun j c hj => by
    match j with
    | 0 => simp at hj; subst hj; exact h0
    | 1 => simp at hj; subst hj; exact h1
    | 2 => simp at hj; subst hj; exact h2
    | 3 => simp at hj; subst hj; exact h3
    | 4 => simp at hj; subst hj; exact h4
    | 5 => simp at hj; subst hj; exact h5
    | 6 => simp at hj; subst hj; exact h6
    | 7 => simp at hj; subst hj; exact h7
    | 8 => simp at hj; subst hj; exact h8
    | 9 => simp at hj; subst hj; exact h9
    | j + 10 => simp at hj)
  obtain ⟨pp, cc, rfl, _⟩ := r9.shape
  exact ⟨⟨i0, i1, s2, s3, s4, s5, s6, i7, i8, pp, (l9.map attC).length, cc, l9⟩, rfl, ⟨z3, z4, z5, z9⟩, r9, m9⟩

end

end Go.Proofs.Ytfihccfjboopiaa
