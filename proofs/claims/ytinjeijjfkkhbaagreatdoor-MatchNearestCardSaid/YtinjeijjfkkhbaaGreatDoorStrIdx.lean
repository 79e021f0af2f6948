/-
  WHERE A LIST MEETS A TEST FIRST: -1 if nowhere (plain).
  THE WALKS of slices.IndexFunc and ContainsFunc over terms.
  THE WALKS of slices.IndexFunc and ContainsFunc over strings.
-/
import Derived.Test.YtinjeijjfkkhbaaGreatDoorTreeFirst
namespace Go.Proofs.YtinjeijjfkkhbaaGreatDoor

def idxB {α : Type} (p : α → Bool) (l : List α) : Int := match l.findIdx? p with
  | some k => k
  | none => -1
theorem idxB_none {α : Type} {p : α → Bool} {l : List α} (h : ∀ x ∈ l, p x = false) : idxB p l = -1 := by
  unfold idxB
  rw [List.findIdx?_eq_none_iff.2 fun x hx => by simp [h x hx]]
theorem idxB_some {α : Type} {p : α → Bool} {l : List α} {k : Nat} {d : α} (hk : l[k]? = some d) (hb : ∀ j x, j < k → l[j]? = some x → p x = false) (hh : p d = true) : idxB p l = k := by
  unfold idxB
  have hlt : k < l.length := (List.getElem?_eq_some_iff.1 hk).1
  have he : l[k] = d := (List.getElem?_eq_some_iff.1 hk).2
  have : l.findIdx? p = some k := by
    rw [List.findIdx?_eq_some_iff_getElem]
    refine ⟨hlt, by rw [he]; simp [hh], fun j hj => ?_⟩
    have := hb j _ hj (List.getElem?_eq_getElem (by omega))
    simp [this]
  rw [this]
theorem idxB_any {α : Type} (p : α → Bool) (l : List α) : ∃ i : Int, idxB p l = i ∧ decide (i ≥ 0) = l.any p := by
  refine ⟨_, rfl, ?_⟩
  unfold idxB
  cases h : l.findIdx? p with
  | none =>
    have : l.any p = false := by
      rw [List.any_eq_false]
      intro x hx
      have := List.findIdx?_eq_none_iff.1 h x hx
      simp [this]
    rw [this]
    rfl
  | some k =>
    obtain ⟨hlt, h1, _⟩ := List.findIdx?_eq_some_iff_getElem.1 h
    have : l.any p = true := List.any_eq_true.2 ⟨_, List.getElem_mem hlt, h1⟩
    rw [this]
    simp

end Go.Proofs.YtinjeijjfkkhbaaGreatDoor

namespace Go.Proofs.YtinjeijjfkkhbaaGreatDoor
open Go.RowKit

set_option maxRecDepth 100000 in
set_option maxHeartbeats 2000000 in
theorem indexT_any (l : List Trm) (v : Value) (p : Trm → Bool) (cb : Nat) (w : World) (hl : TrmsAt w v l)
    (hP : ∀ x ∈ l, ∀ W, Below w.heap.size w W → Calls Tryz.prog 22 #[.agg #[.int .i64 x.k, .string x.n, .int .i64 x.o, .string x.v], .pointer (some ⟨cb, 0, none⟩)] W fun e w' => e = .returned (.bool (p x)) ∧ Below W.heap.size W w') :
    Calls Tryz.prog 49 #[v, .func (Fn.func 22) #[] #[.pointer (some ⟨cb, 0, none⟩)]] w fun e w' => e = .returned (.int .i64 (idxB p l)) ∧ Below w.heap.size w w' := by
  obtain ⟨hlen, hl2⟩ := hl
  have hP' := Lib.hid hP; clear hP
  rcases hl2 with ⟨rfl, h0⟩ | ⟨g, o, cap, rfl, hg, hcells⟩
  · have hl0 : l = [] := List.map_eq_nil_iff.1 h0
    subst hl0
    clear hP'
    go_enter Tryz.func49, Tryz.ntmps49
    go_wp2_with fail
    go_loopw [8] (fun s8 wr => s8 = .int .i64 0 ∧ Below w.heap.size w wr) (fun _ _ => 0)
    case atStart => exact ⟨rfl, Below.refl _ _⟩
    case round =>
      obtain ⟨rfl, hb⟩ := hrel
      have hb' := Lib.hid hb; clear hb
      go_wp2_with fail
      go_ret
      exact ⟨rfl, hb'.out⟩
  · rw [List.length_map] at hlen ⊢
    obtain ⟨n, hn⟩ : ∃ n, l.length = n := ⟨_, rfl⟩
    rw [hn] at hlen ⊢
    have hn' := Lib.hid hn; clear hn
    have hcells' : Hid (∀ (k : Nat) (x : Trm), l[k]? = some x → ∀ (j : Nat) (u : Value), (trmC x)[j]? = some u → w.cell? ⟨g, o + k * 4 + j, none⟩ = some u) := fun k x hx => hcells k (trmC x) (by rw [List.getElem?_map, hx]; rfl)
    clear hcells
    go_enter Tryz.func49, Tryz.ntmps49
    go_wp2_with fail
    go_loopw [8] (fun s8 wr => ∃ k : Nat, s8 = .int .i64 k ∧ k ≤ n ∧ Hid (Below w.heap.size w wr) ∧ Hid (∀ j x, j < k → l[j]? = some x → p x = false)) (fun s8 _ => n - (intOf s8).toNat)
    case atStart => exact ⟨0, rfl, by omega, Below.refl _ _, fun j x hj => by omega⟩
    case round =>
      obtain ⟨k, rfl, hk, hb', hno⟩ := hrel
      by_cases hkn : k < n
      · obtain ⟨x, hx⟩ : ∃ x, l[k]? = some x := ⟨_, List.getElem?_eq_getElem (by have := hn'.out; omega)⟩
        have e : ∀ i, wr.cell? ⟨g, i, none⟩ = w.cell? ⟨g, i, none⟩ := fun i => World.cell?_of_block (hb'.out.block g hg)
        have hc := hcells'.out k x hx
        simp only [← e] at hc
        have c0 : wr.cell? ⟨g, o + k * 4, none⟩ = some (.int .i64 x.k) := hc 0 _ rfl
        have c1 := hc 1 _ rfl
        have c2 := hc 2 _ rfl
        have c3 := hc 3 _ rfl
        have hC := hP'.out x (List.mem_of_getElem? hx) wr hb'.out
        have ik : (k : Int) < (n : Int) := by omega
        have ik0 : (0 : Int) ≤ (k : Int) := by omega
        have hC' := Lib.hid hC; clear hC e hc
        have hx' := Lib.hid hx; clear hx
        obtain ⟨b, hpb⟩ : ∃ b, p x = b := ⟨_, rfl⟩
        rw [hpb] at hC'
        have hpb' := Lib.hid hpb; clear hpb
        obtain ⟨y, hy⟩ : ∃ y, x = y := ⟨_, rfl⟩
        have hy' : Hid (p y = b ∧ l[k]? = some y) := by subst hy; exact ⟨hpb'.out, hx'.out⟩
        clear hy hpb' hx'
        obtain ⟨x0, x1, x2, x3⟩ := x
        simp only at c0 c1 c2 c3 hC'
        cases b with
        | true =>
          have hfin' := Lib.hid (idxB_some hy'.out.2 hno.out hy'.out.1)
          go_wp2_with fail
          refine hC'.out.mono ?_
          rintro e v1 ⟨rfl, hb1⟩
          have k1' := Lib.hid (hb'.out.trans (hb1.mono hb'.out.size)); clear hb1
          go_wp2_with fail
          go_ret
          exact ⟨by rw [hfin'.out]; rfl, k1'.out⟩
        | false =>
          have hno2 : Hid (∀ j x, j < k + 1 → l[j]? = some x → p x = false) := fun j x hj hx2 => by
            rcases Nat.lt_or_ge j k with h | h
            · exact hno.out j x h hx2
            · obtain rfl : j = k := by omega
              rw [hy'.out.2] at hx2
              cases hx2
              exact hy'.out.1
          clear hno
          go_wp2_with fail
          refine hC'.out.mono ?_
          rintro e v1 ⟨rfl, hb1⟩
          have k1' := Lib.hid (hb'.out.trans (hb1.mono hb'.out.size)); clear hb1
          go_wp2_with fail
          go_roundw
          case rel => exact ⟨k + 1, by go_num, by omega, k1', hno2⟩
          case measure => simp [intOf]; omega
      · obtain rfl : k = n := by omega
        have hfin : idxB p l = -1 := idxB_none fun x hx => by
          obtain ⟨j, hj⟩ := List.getElem?_of_mem hx
          exact hno.out j x (by have := (List.getElem?_eq_some_iff.1 hj).1; have := hn'.out; omega) hj
        have hfin' := Lib.hid hfin; clear hfin hno
        go_wp2_with fail
        go_ret
        exact ⟨by rw [hfin'.out]; rfl, hb'.out⟩

theorem containsT_any (l : List Trm) (v : Value) (p : Trm → Bool) (cb : Nat) (w : World) (hl : TrmsAt w v l)
    (hP : ∀ x ∈ l, ∀ W, Below w.heap.size w W → Calls Tryz.prog 22 #[.agg #[.int .i64 x.k, .string x.n, .int .i64 x.o, .string x.v], .pointer (some ⟨cb, 0, none⟩)] W fun e w' => e = .returned (.bool (p x)) ∧ Below W.heap.size W w') :
    Calls Tryz.prog 21 #[v, .func (Fn.func 22) #[] #[.pointer (some ⟨cb, 0, none⟩)]] w fun e w' => e = .returned (.bool (l.any p)) ∧ Below w.heap.size w w' := by
  have hI := indexT_any l v p cb w hl hP
  obtain ⟨i, hi, hi2⟩ := idxB_any p l
  rw [hi] at hI
  have hI' := Lib.hid hI; clear hI hi hP
  generalize l.any p = b at *
  go_enter Tryz.func21, Tryz.ntmps21
  go_wp2_with fail
  refine hI'.out.mono ?_
  rintro e v1 ⟨rfl, hb1⟩
  have hb2 := Lib.hid hb1; clear hb1
  go_wp2_with fail
  go_ret
  exact ⟨by first | rfl | (rw [hi2]) | (simp [hi2]), hb2.out⟩

end Go.Proofs.YtinjeijjfkkhbaaGreatDoor

namespace Go.Proofs.YtinjeijjfkkhbaaGreatDoor
open Go.RowKit

set_option maxRecDepth 100000 in
set_option maxHeartbeats 2000000 in
theorem indexS_any (l : List ByteArray) (v : Value) (p : ByteArray → Bool) (cb : Nat) (w : World) (hl : RowAt w v 1 (l.map fun s => [.string s]))
    (hP : ∀ x ∈ l, ∀ W, Below w.heap.size w W → Calls Tryz.prog 36 #[.string x, .pointer (some ⟨cb, 0, none⟩)] W fun e w' => e = .returned (.bool (p x)) ∧ Below W.heap.size W w') :
    Calls Tryz.prog 60 #[v, .func (Fn.func 36) #[] #[.pointer (some ⟨cb, 0, none⟩)]] w fun e w' => e = .returned (.int .i64 (idxB p l)) ∧ Below w.heap.size w w' := by
  obtain ⟨hlen, hl2⟩ := hl
  have hP' := Lib.hid hP; clear hP
  rcases hl2 with ⟨rfl, h0⟩ | ⟨g, o, cap, rfl, hg, hcells⟩
  · have hl0 : l = [] := List.map_eq_nil_iff.1 h0
    subst hl0
    clear hP'
    go_enter Tryz.func60, Tryz.ntmps60
    go_wp2_with fail
    go_loopw [8] (fun s8 wr => s8 = .int .i64 0 ∧ Below w.heap.size w wr) (fun _ _ => 0)
    case atStart => exact ⟨rfl, Below.refl _ _⟩
    case round =>
      obtain ⟨rfl, hb⟩ := hrel
      have hb' := Lib.hid hb; clear hb
      go_wp2_with fail
      go_ret
      exact ⟨rfl, hb'.out⟩
  · rw [List.length_map] at hlen ⊢
    obtain ⟨n, hn⟩ : ∃ n, l.length = n := ⟨_, rfl⟩
    rw [hn] at hlen ⊢
    have hn' := Lib.hid hn; clear hn
    have hcells' : Hid (∀ (k : Nat) (x : ByteArray), l[k]? = some x → ∀ (j : Nat) (u : Value), [Value.string x][j]? = some u → w.cell? ⟨g, o + k * 1 + j, none⟩ = some u) := fun k x hx => hcells k [Value.string x] (by rw [List.getElem?_map, hx]; rfl)
    clear hcells
    go_enter Tryz.func60, Tryz.ntmps60
    go_wp2_with fail
    go_loopw [8] (fun s8 wr => ∃ k : Nat, s8 = .int .i64 k ∧ k ≤ n ∧ Hid (Below w.heap.size w wr) ∧ Hid (∀ j x, j < k → l[j]? = some x → p x = false)) (fun s8 _ => n - (intOf s8).toNat)
    case atStart => exact ⟨0, rfl, by omega, Below.refl _ _, fun j x hj => by omega⟩
    case round =>
      obtain ⟨k, rfl, hk, hb', hno⟩ := hrel
      by_cases hkn : k < n
      · obtain ⟨x, hx⟩ : ∃ x, l[k]? = some x := ⟨_, List.getElem?_eq_getElem (by have := hn'.out; omega)⟩
        have e : ∀ i, wr.cell? ⟨g, i, none⟩ = w.cell? ⟨g, i, none⟩ := fun i => World.cell?_of_block (hb'.out.block g hg)
        have hc := hcells'.out k x hx
        simp only [← e] at hc
        have c0 : wr.cell? ⟨g, o + k, none⟩ = some (.string x) := by have := hc 0 _ rfl; rwa [Nat.mul_one] at this
        have hC := hP'.out x (List.mem_of_getElem? hx) wr hb'.out
        have ik : (k : Int) < (n : Int) := by omega
        have ik0 : (0 : Int) ≤ (k : Int) := by omega
        have hC' := Lib.hid hC; clear hC e hc
        have hx' := Lib.hid hx; clear hx
        obtain ⟨b, hpb⟩ : ∃ b, p x = b := ⟨_, rfl⟩
        rw [hpb] at hC'
        have hpb' := Lib.hid hpb; clear hpb
        obtain ⟨y, hy⟩ : ∃ y, x = y := ⟨_, rfl⟩
        have hy' : Hid (p y = b ∧ l[k]? = some y) := by subst hy; exact ⟨hpb'.out, hx'.out⟩
        clear hy hpb' hx'
        
        cases b with
        | true =>
          have hfin' := Lib.hid (idxB_some hy'.out.2 hno.out hy'.out.1)
          go_wp2_with fail
          refine hC'.out.mono ?_
          rintro e v1 ⟨rfl, hb1⟩
          have k1' := Lib.hid (hb'.out.trans (hb1.mono hb'.out.size)); clear hb1
          go_wp2_with fail
          go_ret
          exact ⟨by rw [hfin'.out]; rfl, k1'.out⟩
        | false =>
          have hno2 : Hid (∀ j x, j < k + 1 → l[j]? = some x → p x = false) := fun j x hj hx2 => by
            rcases Nat.lt_or_ge j k with h | h
            · exact hno.out j x h hx2
            · obtain rfl : j = k := by omega
              rw [hy'.out.2] at hx2
              cases hx2
              exact hy'.out.1
          clear hno
          go_wp2_with fail
          refine hC'.out.mono ?_
          rintro e v1 ⟨rfl, hb1⟩
          have k1' := Lib.hid (hb'.out.trans (hb1.mono hb'.out.size)); clear hb1
          go_wp2_with fail
          go_roundw
          case rel => exact ⟨k + 1, by go_num, by omega, k1', hno2⟩
          case measure => simp [intOf]; omega
      · obtain rfl : k = n := by omega
        have hfin : idxB p l = -1 := idxB_none fun x hx => by
          obtain ⟨j, hj⟩ := List.getElem?_of_mem hx
          exact hno.out j x (by have := (List.getElem?_eq_some_iff.1 hj).1; have := hn'.out; omega) hj
        have hfin' := Lib.hid hfin; clear hfin hno
        go_wp2_with fail
        go_ret
        exact ⟨by rw [hfin'.out]; rfl, hb'.out⟩

theorem containsS_any (l : List ByteArray) (v : Value) (p : ByteArray → Bool) (cb : Nat) (w : World) (hl : RowAt w v 1 (l.map fun s => [.string s]))
    (hP : ∀ x ∈ l, ∀ W, Below w.heap.size w W → Calls Tryz.prog 36 #[.string x, .pointer (some ⟨cb, 0, none⟩)] W fun e w' => e = .returned (.bool (p x)) ∧ Below W.heap.size W w') :
    Calls Tryz.prog 35 #[v, .func (Fn.func 36) #[] #[.pointer (some ⟨cb, 0, none⟩)]] w fun e w' => e = .returned (.bool (l.any p)) ∧ Below w.heap.size w w' := by
  have hI := indexS_any l v p cb w hl hP
  obtain ⟨i, hi, hi2⟩ := idxB_any p l
  rw [hi] at hI
  have hI' := Lib.hid hI; clear hI hi hP
  generalize l.any p = b at *
  go_enter Tryz.func35, Tryz.ntmps35
  go_wp2_with fail
  refine hI'.out.mono ?_
  rintro e v1 ⟨rfl, hb1⟩
  have hb2 := Lib.hid hb1; clear hb1
  go_wp2_with fail
  go_ret
  exact ⟨by first | rfl | (rw [hi2]) | (simp [hi2]), hb2.out⟩

end Go.Proofs.YtinjeijjfkkhbaaGreatDoor
