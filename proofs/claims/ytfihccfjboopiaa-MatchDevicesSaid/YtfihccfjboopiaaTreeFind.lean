/-
  THE WALKS of tree.Find's closure and of slices.IndexFunc over devices.
-/
import Derived.Test.YtfihccfjboopiaaMatchDev
namespace Go.Proofs.Ytfihccfjboopiaa
open Go.RowKit

def idxD (l : List Dev) (i : Int) : Int := match l.findIdx? (fun d => decide (d.idx = i)) with
  | some k => k
  | none => -1
theorem idxD_none {l : List Dev} {i : Int} (h : ∀ x ∈ l, x.idx ≠ i) : idxD l i = -1 := by
  unfold idxD
  rw [List.findIdx?_eq_none_iff.2 fun x hx => by simp [h x hx]]
theorem idxD_some {l : List Dev} {i : Int} {k : Nat} {d : Dev} (hk : l[k]? = some d) (hb : ∀ j x, j < k → l[j]? = some x → x.idx ≠ i) (hh : d.idx = i) : idxD l i = k := by
  unfold idxD
  have hlt : k < l.length := (List.getElem?_eq_some_iff.1 hk).1
  have he : l[k] = d := (List.getElem?_eq_some_iff.1 hk).2
  have : l.findIdx? (fun d => decide (d.idx = i)) = some k := by
    rw [List.findIdx?_eq_some_iff_getElem]
    refine ⟨hlt, by rw [he]; simp [hh], fun j hj => ?_⟩
    have := hb j _ hj (List.getElem?_eq_getElem (by omega))
    simp [this]
  rw [this]

set_option maxRecDepth 100000 in
theorem isIdx_any (d : Dev) (i : Int) (cb : Nat) (w : World) (hcb : w.cell? ⟨cb, 0, none⟩ = some (.int .i64 i)) :
    Calls Try.prog 73 #[devV d, .pointer (some ⟨cb, 0, none⟩)] w fun e w' => e = .returned (.bool (decide (d.idx = i))) ∧ Below w.heap.size w w' := by
  have hlt : cb < w.heap.size := World.block_lt_of_cell? w _ hcb
  have hq : (d.idx == i) = decide (d.idx = i) := by by_cases h : d.idx = i <;> simp [h]
  unfold devV
  have hcb2 : (w.alloc (.cells #[.int .i64 d.idx, .int .i64 d.par, .string d.name, .string d.orig, .string d.sub, .string d.drv, .string d.ali, .int .i64 d.kind, .int .i64 d.num, .slice d.aa d.an d.ac] 42)).cell? ⟨cb, 0, none⟩ = some (.int .i64 i) := by
    rw [World.cell?_alloc_lt _ _ _ hlt]; exact hcb
  generalize decide (d.idx = i) = b at *
  go_enter Try.func73, Try.ntmps73
  go_wp2_with fail
  go_ret
  exact ⟨by first | rfl | (rw [← hq]; rfl), (Below.refl _ _).alloc (Nat.le_refl _) _⟩

set_option maxRecDepth 100000 in
set_option maxHeartbeats 2000000 in
theorem indexD_any (l : List Dev) (v : Value) (i : Int) (cb : Nat) (w : World) (hl : DevsAt w v l) (hcb : w.cell? ⟨cb, 0, none⟩ = some (.int .i64 i)) :
    Calls Try.prog 88 #[v, .func (Fn.func 73) #[] #[.pointer (some ⟨cb, 0, none⟩)]] w fun e w' => e = .returned (.int .i64 (idxD l i)) ∧ Below w.heap.size w w' := by
  have hlt : cb < w.heap.size := World.block_lt_of_cell? w _ hcb
  obtain ⟨⟨hlen, hl2⟩, _⟩ := hl
  rcases hl2 with ⟨rfl, h0⟩ | ⟨g, o, cap, rfl, hg, hcells⟩
  · have hl0 : l = [] := List.map_eq_nil_iff.1 h0
    subst hl0
    go_enter Try.func88, Try.ntmps88
    go_wp2_with fail
    go_loopw [8] (fun s8 wr => s8 = .int .i64 0 ∧ Below w.heap.size w wr) (fun _ _ => 0)
    case atStart => exact ⟨rfl, Below.refl _ _⟩
    case round =>
      obtain ⟨rfl, hb⟩ := hrel
      have hb' := Lib.hid hb; clear hb
      go_wp2_with fail
      go_ret
      exact ⟨rfl, hb'.out⟩
  · rw [List.length_map] at hlen ⊢
    have hP := fun d W (hc : W.cell? ⟨cb, 0, none⟩ = some (.int .i64 i)) => isIdx_any d i cb W hc
    have hP' := Lib.hid hP; clear hP
    obtain ⟨n, hn⟩ : ∃ n, l.length = n := ⟨_, rfl⟩
    rw [hn] at hlen ⊢
    have hn' := Lib.hid hn; clear hn
    have hcells' : Hid (∀ (k : Nat) (d : Dev), l[k]? = some d → ∀ (j : Nat) (u : Value), (devC d)[j]? = some u → w.cell? ⟨g, o + k * 10 + j, none⟩ = some u) := fun k d hd => hcells k (devC d) (by rw [List.getElem?_map, hd]; rfl)
    clear hcells
    have hcb' := Lib.hid hcb; clear hcb
    go_enter Try.func88, Try.ntmps88
    go_wp2_with fail
    go_loopw [8] (fun s8 wr => ∃ k : Nat, s8 = .int .i64 k ∧ k ≤ n ∧ Hid (Below w.heap.size w wr) ∧ Hid (∀ j x, j < k → l[j]? = some x → x.idx ≠ i)) (fun s8 _ => n - (intOf s8).toNat)
    case atStart => exact ⟨0, rfl, by omega, Below.refl _ _, fun j x hj => by omega⟩
    case round =>
      obtain ⟨k, rfl, hk, hb', hno⟩ := hrel
      by_cases hkn : k < n
      · obtain ⟨d, hd⟩ : ∃ d, l[k]? = some d := ⟨_, List.getElem?_eq_getElem (by have := hn'.out; omega)⟩
        have e : ∀ i, wr.cell? ⟨g, i, none⟩ = w.cell? ⟨g, i, none⟩ := fun i => World.cell?_of_block (hb'.out.block g hg)
        have hc := hcells'.out k d hd
        simp only [← e] at hc
        have c0 : wr.cell? ⟨g, o + k * 10, none⟩ = some (.int .i64 d.idx) := hc 0 _ rfl
        have c1 := hc 1 _ rfl
        have c2 := hc 2 _ rfl
        have c3 := hc 3 _ rfl
        have c4 := hc 4 _ rfl
        have c5 := hc 5 _ rfl
        have c6 := hc 6 _ rfl
        have c7 := hc 7 _ rfl
        have c8 := hc 8 _ rfl
        have c9 := hc 9 _ rfl
        have hcr : wr.cell? ⟨cb, 0, none⟩ = some (.int .i64 i) := (World.cell?_of_block (hb'.out.block cb hlt)).trans hcb'.out
        have hC := hP'.out d wr hcr
        unfold devV at hC
        have ik : (k : Int) < (n : Int) := by omega
        have ik0 : (0 : Int) ≤ (k : Int) := by omega
        have hC' := Lib.hid hC; clear hC hcr e hc
        have hd' := Lib.hid hd; clear hd
        obtain ⟨x0, x1, x2, x3, x4, x5, x6, x7, x8, xa, xn, xc, xt⟩ := d
        simp only [Dev.atv] at c0 c1 c2 c3 c4 c5 c6 c7 c8 c9 hC'
        by_cases hx : x0 = i
        · have hfin := idxD_some hd'.out hno.out hx
          have hfin' := Lib.hid hfin; clear hfin
          rw [decide_eq_true hx] at hC'
          clear hx
          go_wp2_with fail
          refine hC'.out.mono ?_
          rintro e v1 ⟨rfl, hb1⟩
          have k1' := Lib.hid (hb'.out.trans (hb1.mono hb'.out.size)); clear hb1
          go_wp2_with fail
          go_ret
          exact ⟨by rw [hfin'.out]; rfl, k1'.out⟩
        · rw [decide_eq_false hx] at hC'
          have hno2 : Hid (∀ j x, j < k + 1 → l[j]? = some x → x.idx ≠ i) := fun j x hj hx2 => by
            rcases Nat.lt_or_ge j k with h | h
            · exact hno.out j x h hx2
            · obtain rfl : j = k := by omega
              rw [hd'.out] at hx2
              cases hx2
              exact hx
          clear hno hx
          go_wp2_with fail
          refine hC'.out.mono ?_
          rintro e v1 ⟨rfl, hb1⟩
          have k1' := Lib.hid (hb'.out.trans (hb1.mono hb'.out.size)); clear hb1
          go_wp2_with fail
          go_roundw
          case rel => exact ⟨k + 1, by go_num, by omega, k1', hno2⟩
          case measure => simp [intOf]; omega
      · obtain rfl : k = n := by omega
        have hfin : idxD l i = -1 := idxD_none fun x hx => by
          obtain ⟨j, hj⟩ := List.getElem?_of_mem hx
          exact hno.out j x (by have := (List.getElem?_eq_some_iff.1 hj).1; have := hn'.out; omega) hj
        have hfin' := Lib.hid hfin; clear hfin hno
        go_wp2_with fail
        go_ret
        exact ⟨by rw [hfin'.out]; rfl, hb'.out⟩

end Go.Proofs.Ytfihccfjboopiaa
