/-
  THE WALK of the reference's Draft.
-/
import Derived.Test.YtfihccfjboopiaaRefTerm
import Derived.Test.YtfihccfjboopiaaMatchDraft
namespace Go.Proofs.Ytfihccfjboopiaa
open Go.RowKit

set_option maxRecDepth 100000 in
set_option maxHeartbeats 4000000 in
theorem rdraft_tag (n : ByteArray) (o : Int) (v act : ByteArray) (x : Dft) (w : World) (hx : DftAt w x) (hf : DftFit x) (hv : v.size ≤ 9223372036854775807) (hm : isMatch o = true) :
    Calls Try.prog 12 #[termV 7 n o v, .string act, .agg (dftC x)] w fun e w' => e = .returned (.bool ((x.tl.any fun s => G.matchS (bs v) (bs s)) == decide (o = 1))) ∧ Below w.heap.size w w' := by
  have ho : o = 1 ∨ o = 2 := by
    unfold isMatch at hm
    simpa using hm
  have hbb : Below w.heap.size w ((w.alloc (.cells #[.int .i64 7, .string n, .int .i64 o, .string v] 23)).alloc (.cells (dftC x) 28)) := ((Below.refl _ _).alloc (Nat.le_refl _) _).alloc (by simp) _
  have hM := rgm_any 7 n o v ((w.alloc (.cells #[.int .i64 7, .string n, .int .i64 o, .string v] 23)).alloc (.cells (dftC x) 28))
  rw [hm] at hM
  have hT : Hid (Blk ((w.alloc (.cells #[.int .i64 7, .string n, .int .i64 o, .string v] 23)).alloc (.cells (dftC x) 28)) w.heap.size 23 #[.int .i64 7, .string n, .int .i64 o, .string v]) := (Blk.new _ _ _).alloc _
  have hD : Hid (Blk ((w.alloc (.cells #[.int .i64 7, .string n, .int .i64 o, .string v] 23)).alloc (.cells (dftC x) 28)) (w.heap.size + 1) 28 (dftC x)) := Blk.new_ _ _ _ (by simp)
  have hG := fun (s : ByteArray) (hs : s ∈ x.tl) W => rmatch_any v s W hv (hf.2.2 s hs)
  have hb := Lib.hid hbb; clear hbb
  obtain ⟨R, hR⟩ : ∃ R, ((x.tl.any fun s => G.matchS (bs v) (bs s)) == decide (o = 1)) = R := ⟨_, rfl⟩
  rw [hR]
  have hR' := Lib.hid hR; clear hR
  have hx2 := hx.2
  obtain ⟨pv, tv, v2, v3, v4, nm, pr, ow, gr, md, rs, ca, ti, v13, pl, tl⟩ := x
  simp only at hG hR' hx2
  unfold dftC at *
  unfold termV at *
  simp only at *
  have hM' := Lib.hid hM; clear hM
  have hG' := Lib.hid hG; clear hG hx hf hv hm
  obtain ⟨hlen, hl2⟩ := hx2
  rw [List.length_map] at hlen hl2
  obtain ⟨m, hml⟩ : ∃ m, tl.length = m := ⟨_, rfl⟩
  rw [hml] at hlen hl2
  have hm' := Lib.hid hml; clear hml
  rcases hl2 with ⟨rfl, h0⟩ | ⟨g, off, cap, rfl, hg, hc⟩
  · have hl0 : tl = [] := List.map_eq_nil_iff.1 h0
    subst hl0
    clear hlen h0
    have hR2 : Hid ((false == decide (o = 1)) = R) := hR'.out
    clear hR'
    rcases ho with rfl | rfl
    · obtain rfl : R = false := by rw [← hR2.out]; rfl
      clear hR2
      go_enter Try.func12, Try.ntmps12
      go_wp2_with fail
      refine hM'.out.mono ?_
      rintro e y1 ⟨rfl, hy⟩
      have z1 := Lib.hid (hb.out.trans (hy.mono hb.out.size))
      have hT1 := Lib.hid (hT.out.below hy hT.out.lt)
      have hD1 := Lib.hid (hD.out.below hy hD.out.lt)
      have c0 := hT1.out.cell 0
      have c2 := hT1.out.cell 2
      have c3 := hT1.out.cell 3
      have d1 := hD1.out.cell 1
      simp only [List.getElem?_toArray, List.getElem?_cons_zero, List.getElem?_cons_succ] at c0 c2 c3 d1
      clear hy
      go_wp2_with fail
      go_loopw [9] (fun si wr => si = .int .i64 0 ∧ wr = y1) (fun _ _ => 0)
      case atStart => exact ⟨rfl, rfl⟩
      case round =>
        obtain ⟨rfl, rfl⟩ := hrel
        go_wp2_with fail
        go_ret
        exact ⟨rfl, z1.out⟩
    · obtain rfl : R = true := by rw [← hR2.out]; rfl
      clear hR2
      go_enter Try.func12, Try.ntmps12
      go_wp2_with fail
      refine hM'.out.mono ?_
      rintro e y1 ⟨rfl, hy⟩
      have z1 := Lib.hid (hb.out.trans (hy.mono hb.out.size))
      have hT1 := Lib.hid (hT.out.below hy hT.out.lt)
      have hD1 := Lib.hid (hD.out.below hy hD.out.lt)
      have c0 := hT1.out.cell 0
      have c2 := hT1.out.cell 2
      have c3 := hT1.out.cell 3
      have d1 := hD1.out.cell 1
      simp only [List.getElem?_toArray, List.getElem?_cons_zero, List.getElem?_cons_succ] at c0 c2 c3 d1
      clear hy
      go_wp2_with fail
      go_loopw [9] (fun si wr => si = .int .i64 0 ∧ wr = y1) (fun _ _ => 0)
      case atStart => exact ⟨rfl, rfl⟩
      case round =>
        obtain ⟨rfl, rfl⟩ := hrel
        go_wp2_with fail
        go_ret
        exact ⟨rfl, z1.out⟩
  · have hc' : Hid (∀ (k : Nat) (s : ByteArray), tl[k]? = some s → w.cell? ⟨g, off + k, none⟩ = some (.string s)) := fun k s hs => by
      have h1 : (tl.map fun s => [Value.string s])[k]? = some [.string s] := by rw [List.getElem?_map, hs]; rfl
      have := hc k _ h1 0 _ rfl
      rwa [Nat.mul_one, Nat.add_zero] at this
    clear hc
    rcases ho with rfl | rfl
    · go_enter Try.func12, Try.ntmps12
      go_wp2_with fail
      refine hM'.out.mono ?_
      rintro e y1 ⟨rfl, hy⟩
      have z1 := Lib.hid (hb.out.trans (hy.mono hb.out.size))
      have hT1 := Lib.hid (hT.out.below hy hT.out.lt)
      have hD1 := Lib.hid (hD.out.below hy hD.out.lt)
      have c0 := hT1.out.cell 0
      have c2 := hT1.out.cell 2
      have c3 := hT1.out.cell 3
      have d1 := hD1.out.cell 1
      simp only [List.getElem?_toArray, List.getElem?_cons_zero, List.getElem?_cons_succ] at c0 c2 c3 d1
      clear hy hT hD hb hM'
      go_wp2_with fail
      go_loopw [9] (fun si wr => ∃ k : Nat, si = .int .i64 k ∧ k ≤ m ∧ Hid (∀ s ∈ tl.take k, G.matchS (bs v) (bs s) = false) ∧ Hid (Below w.heap.size w wr) ∧ Hid (Blk wr w.heap.size 23 #[.int .i64 7, .string n, .int .i64 1, .string v]) ∧ Hid (Blk wr (w.heap.size + 1) 28 #[pv, .slice (some ⟨g, off, none⟩) m cap, v2, v3, v4, .string nm, .int .i64 pr, .string ow, .string gr, .int .i64 md, .string rs, .int .i64 ca, .int .i64 ti, v13])) (fun si _ => m - (intOf si).toNat)
      case atStart => exact ⟨0, rfl, by omega, (show ∀ s ∈ tl.take 0, G.matchS (bs v) (bs s) = false from fun x hx => by simp at hx), z1, hT1, hD1⟩
      case round =>
        clear c0 c2 c3 d1 z1 hT1 hD1
        obtain ⟨k, rfl, hk, hno, hb, hT, hD⟩ := hrel
        have c2 := hT.out.cell 2
        have c3 := hT.out.cell 3
        have d1 := hD.out.cell 1
        simp only [List.getElem?_toArray, List.getElem?_cons_zero, List.getElem?_cons_succ] at c2 c3 d1
        by_cases hkm : k < m
        · obtain ⟨s, hs⟩ : ∃ s, tl[k]? = some s := ⟨_, List.getElem?_eq_getElem (by have := hm'.out; omega)⟩
          have e0 := hc'.out k s hs
          have ee : ∀ i, wr.cell? ⟨g, i, none⟩ = w.cell? ⟨g, i, none⟩ := fun i => World.cell?_of_block (hb.out.block g hg)
          rw [← ee] at e0
          clear ee
          have ik : (k : Int) < (m : Int) := by omega
          have ik0 : (0 : Int) ≤ (k : Int) := by omega
          have hC := hG'.out s (List.mem_of_getElem? hs)
          have hs' := Lib.hid hs; clear hs
          have hT1R : Hid (G.matchS (bs v) (bs s) = true → R = true) := fun h => by
            rw [← hR'.out, show (tl.any fun s => G.matchS (bs v) (bs s)) = true from List.any_eq_true.2 ⟨s, List.mem_of_getElem? hs'.out, h⟩]
            rfl
          have hno2 : Hid (G.matchS (bs v) (bs s) = false → ∀ x ∈ tl.take (k + 1), G.matchS (bs v) (bs x) = false) := fun h y hy => by
            rw [List.take_add_one, hs'.out] at hy
            rcases List.mem_append.1 hy with hy | hy
            · exact hno.out y hy
            · simp at hy; subst hy; exact h
          clear hno
          generalize G.matchS (bs v) (bs s) = mt at *
          have hC' := Lib.hid hC; clear hC
          go_upto_region 15 with fail
          have hS0 : Below w.heap.size w wr ∧ Blk wr w.heap.size 23 #[.int .i64 7, .string n, .int .i64 1, .string v] ∧ Blk wr (w.heap.size + 1) 28 #[pv, .slice (some ⟨g, off, none⟩) m cap, v2, v3, v4, .string nm, .int .i64 pr, .string ow, .string gr, .int .i64 md, .string rs, .int .i64 ca, .int .i64 ti, v13] ∧ wr.cell? ⟨w.heap.size, 2, none⟩ = some (.int .i64 1) ∧ wr.cell? ⟨w.heap.size, 3, none⟩ = some (.string v) ∧ wr.cell? ⟨w.heap.size + 1, 1, none⟩ = some (.slice (some ⟨g, off, none⟩) m cap) ∧ wr.cell? ⟨g, off + k, none⟩ = some (.string s) := ⟨hb.out, hT.out, hD.out, c2, c3, d1, e0⟩
          have hS1 : Below w.heap.size w wr.drew ∧ Blk wr.drew w.heap.size 23 #[.int .i64 7, .string n, .int .i64 1, .string v] ∧ Blk wr.drew (w.heap.size + 1) 28 #[pv, .slice (some ⟨g, off, none⟩) m cap, v2, v3, v4, .string nm, .int .i64 pr, .string ow, .string gr, .int .i64 md, .string rs, .int .i64 ca, .int .i64 ti, v13] ∧ wr.drew.cell? ⟨w.heap.size, 2, none⟩ = some (.int .i64 1) ∧ wr.drew.cell? ⟨w.heap.size, 3, none⟩ = some (.string v) ∧ wr.drew.cell? ⟨w.heap.size + 1, 1, none⟩ = some (.slice (some ⟨g, off, none⟩) m cap) ∧ wr.drew.cell? ⟨g, off + k, none⟩ = some (.string s) := ⟨Below.drew hb.out, hT.out.drew, hD.out.drew, c2, c3, d1, e0⟩
          have hk2 : Hid (∀ y, Below wr.drew.heap.size wr.drew y → Below w.heap.size w y ∧ Blk y w.heap.size 23 #[.int .i64 7, .string n, .int .i64 1, .string v] ∧ Blk y (w.heap.size + 1) 28 #[pv, .slice (some ⟨g, off, none⟩) m cap, v2, v3, v4, .string nm, .int .i64 pr, .string ow, .string gr, .int .i64 md, .string rs, .int .i64 ca, .int .i64 ti, v13] ∧ y.cell? ⟨w.heap.size, 2, none⟩ = some (.int .i64 1) ∧ y.cell? ⟨w.heap.size, 3, none⟩ = some (.string v) ∧ y.cell? ⟨w.heap.size + 1, 1, none⟩ = some (.slice (some ⟨g, off, none⟩) m cap) ∧ y.cell? ⟨g, off + k, none⟩ = some (.string s)) := fun y h => by
            have e1 := hT.out.drew.below h hT.out.drew.lt
            have e2 := hD.out.drew.below h hD.out.drew.lt
            have e3 := (Below.drew hb.out).trans (h.mono (Below.drew hb.out).size)
            exact ⟨e3, e1, e2, (e1.cell 2).trans rfl, (e1.cell 3).trans rfl, (e2.cell 1).trans rfl, (World.cell?_of_block (h.block g (Nat.lt_of_lt_of_le hg hb.out.size))).trans e0⟩
          (first | (go_must (go_region_held3 (fun w' => Below w.heap.size w w' ∧ Blk w' w.heap.size 23 #[.int .i64 7, .string n, .int .i64 1, .string v] ∧ Blk w' (w.heap.size + 1) 28 #[pv, .slice (some ⟨g, off, none⟩) m cap, v2, v3, v4, .string nm, .int .i64 pr, .string ow, .string gr, .int .i64 md, .string rs, .int .i64 ca, .int .i64 ti, v13] ∧ w'.cell? ⟨w.heap.size, 2, none⟩ = some (.int .i64 1) ∧ w'.cell? ⟨w.heap.size, 3, none⟩ = some (.string v) ∧ w'.cell? ⟨w.heap.size + 1, 1, none⟩ = some (.slice (some ⟨g, off, none⟩) m cap) ∧ w'.cell? ⟨g, off + k, none⟩ = some (.string s))
            ((first | exact hS0 | exact hS1 | exact hk2.out _ hy1))
            (first | (go_at_call 38; refine (hC'.out _).mono ?_; rintro e y1 ⟨rfl, hy1⟩) | fail))) | fail)
          have hY := hk2.out _ hy1
          have q1 := Lib.hid hY.1
          have q2 := Lib.hid hY.2.1
          have q3 := Lib.hid hY.2.2.1
          clear hy1 hY hS0 hS1 hk2 c2 c3 d1 e0 hb hT hD hC'
          have c2 := q2.out.cell 2
          simp only [List.getElem?_toArray, List.getElem?_cons_zero, List.getElem?_cons_succ] at c2
          cases mt with
          | true =>
            obtain rfl : R = true := hT1R.out rfl
            clear hT1R hno2 hR'
            go_wp2_with fail
            go_ret
            exact ⟨rfl, q1.out⟩
          | false =>
            have hno3 := Lib.hid (hno2.out rfl)
            clear hT1R hno2 hR'
            go_wp2_with fail
            go_roundw
            case rel => exact ⟨k + 1, by go_num, by omega, hno3, q1, q2, q3⟩
            case measure => simp [intOf]; omega
        · obtain rfl : k = m := by omega
          have hF : R = false := by
            rw [← hR'.out, show (tl.any fun s => G.matchS (bs v) (bs s)) = false from List.any_eq_false.2 fun s hs => by
              rw [hno.out s (by rw [List.take_of_length_le (by have := hm'.out; omega)]; exact hs)]; simp]
            rfl
          subst hF
          clear hno hR'
          go_wp2_with fail
          go_ret
          exact ⟨rfl, hb.out⟩
    · go_enter Try.func12, Try.ntmps12
      go_wp2_with fail
      refine hM'.out.mono ?_
      rintro e y1 ⟨rfl, hy⟩
      have z1 := Lib.hid (hb.out.trans (hy.mono hb.out.size))
      have hT1 := Lib.hid (hT.out.below hy hT.out.lt)
      have hD1 := Lib.hid (hD.out.below hy hD.out.lt)
      have c0 := hT1.out.cell 0
      have c2 := hT1.out.cell 2
      have c3 := hT1.out.cell 3
      have d1 := hD1.out.cell 1
      simp only [List.getElem?_toArray, List.getElem?_cons_zero, List.getElem?_cons_succ] at c0 c2 c3 d1
      clear hy hT hD hb hM'
      go_wp2_with fail
      go_loopw [9] (fun si wr => ∃ k : Nat, si = .int .i64 k ∧ k ≤ m ∧ Hid (∀ s ∈ tl.take k, G.matchS (bs v) (bs s) = false) ∧ Hid (Below w.heap.size w wr) ∧ Hid (Blk wr w.heap.size 23 #[.int .i64 7, .string n, .int .i64 2, .string v]) ∧ Hid (Blk wr (w.heap.size + 1) 28 #[pv, .slice (some ⟨g, off, none⟩) m cap, v2, v3, v4, .string nm, .int .i64 pr, .string ow, .string gr, .int .i64 md, .string rs, .int .i64 ca, .int .i64 ti, v13])) (fun si _ => m - (intOf si).toNat)
      case atStart => exact ⟨0, rfl, by omega, (show ∀ s ∈ tl.take 0, G.matchS (bs v) (bs s) = false from fun x hx => by simp at hx), z1, hT1, hD1⟩
      case round =>
        clear c0 c2 c3 d1 z1 hT1 hD1
        obtain ⟨k, rfl, hk, hno, hb, hT, hD⟩ := hrel
        have c2 := hT.out.cell 2
        have c3 := hT.out.cell 3
        have d1 := hD.out.cell 1
        simp only [List.getElem?_toArray, List.getElem?_cons_zero, List.getElem?_cons_succ] at c2 c3 d1
        by_cases hkm : k < m
        · obtain ⟨s, hs⟩ : ∃ s, tl[k]? = some s := ⟨_, List.getElem?_eq_getElem (by have := hm'.out; omega)⟩
          have e0 := hc'.out k s hs
          have ee : ∀ i, wr.cell? ⟨g, i, none⟩ = w.cell? ⟨g, i, none⟩ := fun i => World.cell?_of_block (hb.out.block g hg)
          rw [← ee] at e0
          clear ee
          have ik : (k : Int) < (m : Int) := by omega
          have ik0 : (0 : Int) ≤ (k : Int) := by omega
          have hC := hG'.out s (List.mem_of_getElem? hs)
          have hs' := Lib.hid hs; clear hs
          have hT1R : Hid (G.matchS (bs v) (bs s) = true → R = false) := fun h => by
            rw [← hR'.out, show (tl.any fun s => G.matchS (bs v) (bs s)) = true from List.any_eq_true.2 ⟨s, List.mem_of_getElem? hs'.out, h⟩]
            rfl
          have hno2 : Hid (G.matchS (bs v) (bs s) = false → ∀ x ∈ tl.take (k + 1), G.matchS (bs v) (bs x) = false) := fun h y hy => by
            rw [List.take_add_one, hs'.out] at hy
            rcases List.mem_append.1 hy with hy | hy
            · exact hno.out y hy
            · simp at hy; subst hy; exact h
          clear hno
          generalize G.matchS (bs v) (bs s) = mt at *
          have hC' := Lib.hid hC; clear hC
          go_upto_region 15 with fail
          have hS0 : Below w.heap.size w wr ∧ Blk wr w.heap.size 23 #[.int .i64 7, .string n, .int .i64 2, .string v] ∧ Blk wr (w.heap.size + 1) 28 #[pv, .slice (some ⟨g, off, none⟩) m cap, v2, v3, v4, .string nm, .int .i64 pr, .string ow, .string gr, .int .i64 md, .string rs, .int .i64 ca, .int .i64 ti, v13] ∧ wr.cell? ⟨w.heap.size, 2, none⟩ = some (.int .i64 2) ∧ wr.cell? ⟨w.heap.size, 3, none⟩ = some (.string v) ∧ wr.cell? ⟨w.heap.size + 1, 1, none⟩ = some (.slice (some ⟨g, off, none⟩) m cap) ∧ wr.cell? ⟨g, off + k, none⟩ = some (.string s) := ⟨hb.out, hT.out, hD.out, c2, c3, d1, e0⟩
          have hS1 : Below w.heap.size w wr.drew ∧ Blk wr.drew w.heap.size 23 #[.int .i64 7, .string n, .int .i64 2, .string v] ∧ Blk wr.drew (w.heap.size + 1) 28 #[pv, .slice (some ⟨g, off, none⟩) m cap, v2, v3, v4, .string nm, .int .i64 pr, .string ow, .string gr, .int .i64 md, .string rs, .int .i64 ca, .int .i64 ti, v13] ∧ wr.drew.cell? ⟨w.heap.size, 2, none⟩ = some (.int .i64 2) ∧ wr.drew.cell? ⟨w.heap.size, 3, none⟩ = some (.string v) ∧ wr.drew.cell? ⟨w.heap.size + 1, 1, none⟩ = some (.slice (some ⟨g, off, none⟩) m cap) ∧ wr.drew.cell? ⟨g, off + k, none⟩ = some (.string s) := ⟨Below.drew hb.out, hT.out.drew, hD.out.drew, c2, c3, d1, e0⟩
          have hk2 : Hid (∀ y, Below wr.drew.heap.size wr.drew y → Below w.heap.size w y ∧ Blk y w.heap.size 23 #[.int .i64 7, .string n, .int .i64 2, .string v] ∧ Blk y (w.heap.size + 1) 28 #[pv, .slice (some ⟨g, off, none⟩) m cap, v2, v3, v4, .string nm, .int .i64 pr, .string ow, .string gr, .int .i64 md, .string rs, .int .i64 ca, .int .i64 ti, v13] ∧ y.cell? ⟨w.heap.size, 2, none⟩ = some (.int .i64 2) ∧ y.cell? ⟨w.heap.size, 3, none⟩ = some (.string v) ∧ y.cell? ⟨w.heap.size + 1, 1, none⟩ = some (.slice (some ⟨g, off, none⟩) m cap) ∧ y.cell? ⟨g, off + k, none⟩ = some (.string s)) := fun y h => by
            have e1 := hT.out.drew.below h hT.out.drew.lt
            have e2 := hD.out.drew.below h hD.out.drew.lt
            have e3 := (Below.drew hb.out).trans (h.mono (Below.drew hb.out).size)
            exact ⟨e3, e1, e2, (e1.cell 2).trans rfl, (e1.cell 3).trans rfl, (e2.cell 1).trans rfl, (World.cell?_of_block (h.block g (Nat.lt_of_lt_of_le hg hb.out.size))).trans e0⟩
          (first | (go_must (go_region_held3 (fun w' => Below w.heap.size w w' ∧ Blk w' w.heap.size 23 #[.int .i64 7, .string n, .int .i64 2, .string v] ∧ Blk w' (w.heap.size + 1) 28 #[pv, .slice (some ⟨g, off, none⟩) m cap, v2, v3, v4, .string nm, .int .i64 pr, .string ow, .string gr, .int .i64 md, .string rs, .int .i64 ca, .int .i64 ti, v13] ∧ w'.cell? ⟨w.heap.size, 2, none⟩ = some (.int .i64 2) ∧ w'.cell? ⟨w.heap.size, 3, none⟩ = some (.string v) ∧ w'.cell? ⟨w.heap.size + 1, 1, none⟩ = some (.slice (some ⟨g, off, none⟩) m cap) ∧ w'.cell? ⟨g, off + k, none⟩ = some (.string s))
            ((first | exact hS0 | exact hS1 | exact hk2.out _ hy1))
            (first | (go_at_call 38; refine (hC'.out _).mono ?_; rintro e y1 ⟨rfl, hy1⟩) | fail))) | fail)
          have hY := hk2.out _ hy1
          have q1 := Lib.hid hY.1
          have q2 := Lib.hid hY.2.1
          have q3 := Lib.hid hY.2.2.1
          clear hy1 hY hS0 hS1 hk2 c2 c3 d1 e0 hb hT hD hC'
          have c2 := q2.out.cell 2
          simp only [List.getElem?_toArray, List.getElem?_cons_zero, List.getElem?_cons_succ] at c2
          cases mt with
          | true =>
            obtain rfl : R = false := hT1R.out rfl
            clear hT1R hno2 hR'
            go_wp2_with fail
            go_ret
            exact ⟨rfl, q1.out⟩
          | false =>
            have hno3 := Lib.hid (hno2.out rfl)
            clear hT1R hno2 hR'
            go_wp2_with fail
            go_roundw
            case rel => exact ⟨k + 1, by go_num, by omega, hno3, q1, q2, q3⟩
            case measure => simp [intOf]; omega
        · obtain rfl : k = m := by omega
          have hF : R = true := by
            rw [← hR'.out, show (tl.any fun s => G.matchS (bs v) (bs s)) = false from List.any_eq_false.2 fun s hs => by
              rw [hno.out s (by rw [List.take_of_length_le (by have := hm'.out; omega)]; exact hs)]; simp]
            rfl
          subst hF
          clear hno hR'
          go_wp2_with fail
          go_ret
          exact ⟨rfl, hb.out⟩

set_option maxRecDepth 100000 in
set_option maxHeartbeats 2000000 in
theorem rdraft_any (k : Int) (n : ByteArray) (o : Int) (v act : ByteArray) (x : Dft) (w : World) (hx : DftAt w x) (hf : DftFit x) (hv : v.size ≤ 9223372036854775807) (ha : act.size ≤ 9223372036854775807) :
    Calls Try.prog 12 #[termV k n o v, .string act, .agg (dftC x)] w fun e w' => e = .returned (.bool (draftS k n o v act x)) ∧ Below w.heap.size w w' := by
  have hbb : Below w.heap.size w ((w.alloc (.cells #[.int .i64 k, .string n, .int .i64 o, .string v] 23)).alloc (.cells (dftC x) 28)) := ((Below.refl _ _).alloc (Nat.le_refl _) _).alloc (by simp) _
  have hM := rgm_any k n o v ((w.alloc (.cells #[.int .i64 k, .string n, .int .i64 o, .string v] 23)).alloc (.cells (dftC x) 28))
  have hT : Hid (Blk ((w.alloc (.cells #[.int .i64 k, .string n, .int .i64 o, .string v] 23)).alloc (.cells (dftC x) 28)) w.heap.size 23 #[.int .i64 k, .string n, .int .i64 o, .string v]) := (Blk.new _ _ _).alloc _
  have hD : Hid (Blk ((w.alloc (.cells #[.int .i64 k, .string n, .int .i64 o, .string v] 23)).alloc (.cells (dftC x) 28)) (w.heap.size + 1) 28 (dftC x)) := Blk.new_ _ _ _ (by simp)
  have hH := fun (s : ByteArray) W (hs : s.size ≤ 9223372036854775807) => rholds_any k n o v s W hv hs
  have hG := fun W (h : Below w.heap.size w W) => rget_any x.pl x.pv n W (hx.1.below h)
  have hR7 := fun (hk : k = 7) (hm : isMatch o = true) => rdraft_tag n o v act x w hx hf hv hm
  have hrs := Lib.hid hf.1
  have hgs := Lib.hid (getS_size (n := n) hf.2.1)
  obtain ⟨gv, hgv⟩ : ∃ gv, getS x.pl n = gv := ⟨_, rfl⟩
  obtain ⟨sv, hsv⟩ : ∃ sv, (x.tl.any fun s => G.matchS (bs v) (bs s)) = sv := ⟨_, rfl⟩
  by_cases hk7 : k = 7 ∧ isMatch o = true
  · obtain ⟨rfl, hm⟩ := hk7
    have := hR7 rfl hm
    unfold draftS
    rw [hm]
    simpa using this
  have hk7' := Lib.hid hk7; clear hk7 hR7
  unfold draftS
  simp only [hsv, hgv] at hG ⊢
  rw [hgv] at hgs
  obtain ⟨gs, gb⟩ := gv
  simp only at hG hgs ⊢
  have hh : Hid (∀ s : ByteArray, holdsS o v s = holdsS o v s) := fun _ => rfl
  generalize holdsS o v = hold at *
  have hq : (o == 1) = decide (o = 1) := by by_cases h : o = 1 <;> simp [h]
  have hH' := Lib.hid hH; clear hH
  have hG' := Lib.hid hG; clear hG
  clear hx hf hv hgv hsv hh
  have ha' := Lib.hid ha; clear ha
  have hb := Lib.hid hbb; clear hbb
  generalize isMatch o = mb at *
  unfold termV at *
  have hM' := Lib.hid hM; clear hM
  obtain ⟨pv, tv, v2, v3, v4, nm, pr, ow, gr, md, rs, ca, ti, v13, pl, tl⟩ := x
  unfold dftC at *
  simp only at *
  obtain ⟨R, hR⟩ : ∃ R, (mb && (if k = 1 then hold act else if k = 6 then hold gs else if k = 13 then hold rs else if k = 7 then sv == decide (o = 1) else false)) = R := ⟨_, rfl⟩
  rw [hR]
  have hR' := Lib.hid hR; clear hR
  cases mb with
  | false =>
    obtain rfl : R = false := by rw [← hR'.out]; rfl
    clear hR'
    go_enter Try.func12, Try.ntmps12
    go_wp2_with fail
    refine hM'.out.mono ?_
    rintro e v1 ⟨rfl, hb1⟩
    have hb2 := Lib.hid (hb.out.trans (hb1.mono hb.out.size)); clear hb1
    go_wp2_with fail
    go_ret
    exact ⟨rfl, hb2.out⟩
  | true =>
    have hR2 : Hid ((if k = 1 then hold act else if k = 6 then hold gs else if k = 13 then hold rs else if k = 7 then sv == (o == 1) else false) = R) := by rw [hq]; have := hR'.out; rwa [Bool.true_and] at this
    clear hR' hq
    obtain ⟨q, hq2⟩ : ∃ q, (o == 1) = q := ⟨_, rfl⟩
    rw [hq2] at hR2
    go_enter Try.func12, Try.ntmps12
    go_wp2_with fail
    refine hM'.out.mono ?_
    rintro e v1 ⟨rfl, hb1⟩
    have hb2 := Lib.hid (hb.out.trans (hb1.mono hb.out.size))
    have hX1 := Lib.hid (hT.out.below hb1 hT.out.lt)
    have hD1 := Lib.hid (hD.out.below hb1 hD.out.lt)
    have c0 := hX1.out.cell 0
    have c1 := hX1.out.cell 1
    have c2 := hX1.out.cell 2
    have c3 := hX1.out.cell 3
    have d0 := hD1.out.cell 0
    have d1 := hD1.out.cell 1
    have d10 := hD1.out.cell 10
    simp only [List.getElem?_toArray, List.getElem?_cons_zero, List.getElem?_cons_succ] at c0 c1 c2 c3 d0 d1 d10
    clear hb1
    by_cases k1 : k = 1
    · subst k1
      obtain rfl : R = hold act := by rw [← hR2.out, if_pos rfl]
      clear hR2
      go_wp2_with fail
      refine (hH'.out _ _ ha'.out).mono ?_
      rintro e v2 ⟨rfl, hb3⟩
      have hb4 := Lib.hid (hb2.out.trans (hb3.mono hb2.out.size)); clear hb3
      go_wp2_with fail
      go_ret
      exact ⟨rfl, hb4.out⟩
    · have hR3 : Hid ((if k = 6 then hold gs else if k = 13 then hold rs else if k = 7 then sv == q else false) = R) := by have := hR2.out; rwa [if_neg k1] at this
      clear hR2
      have e1 := beqi_false k1
      by_cases k6 : k = 6
      · subst k6
        obtain rfl : R = hold gs := by rw [← hR3.out, if_pos rfl]
        clear hR3
        go_wp2_with fail
        refine (hG'.out _ hb2.out).mono ?_
        rintro e v2 ⟨rfl, hb3⟩
        have hX2 := hX1.out.below hb3 hX1.out.lt
        have p0 := hX2.cell 0
        have p1 := hX2.cell 1
        have p2 := hX2.cell 2
        have p3 := hX2.cell 3
        simp only [List.getElem?_toArray, List.getElem?_cons_zero, List.getElem?_cons_succ] at p0 p1 p2 p3
        have hb4 := Lib.hid (hb2.out.trans (hb3.mono hb2.out.size)); clear hb3 hX2
        go_wp2_with fail
        refine (hH'.out _ _ hgs.out).mono ?_
        rintro e v3 ⟨rfl, hb5⟩
        have hb6 := Lib.hid (hb4.out.trans (hb5.mono hb4.out.size)); clear hb5
        go_wp2_with fail
        go_ret
        exact ⟨rfl, hb6.out⟩
      · have hR4 : Hid ((if k = 13 then hold rs else if k = 7 then sv == q else false) = R) := by have := hR3.out; rwa [if_neg k6] at this
        clear hR3
        have e6 := beqi_false k6
        by_cases k13 : k = 13
        · subst k13
          obtain rfl : R = hold rs := by rw [← hR4.out, if_pos rfl]
          clear hR4
          go_wp2_with fail
          refine (hH'.out _ _ hrs.out).mono ?_
          rintro e v2 ⟨rfl, hb3⟩
          have hb4 := Lib.hid (hb2.out.trans (hb3.mono hb2.out.size)); clear hb3
          go_wp2_with fail
          go_ret
          exact ⟨rfl, hb4.out⟩
        · have hR5 : Hid ((if k = 7 then sv == q else false) = R) := by have := hR4.out; rwa [if_neg k13] at this
          clear hR4
          have e13 := beqi_false k13
          by_cases k7 : k = 7
          · exact absurd ⟨k7, trivial⟩ hk7'.out
          · obtain rfl : R = false := by rw [← hR5.out, if_neg k7]
            clear hR5
            have e7 := beqi_false k7
            go_wp2_with fail
            go_ret
            exact ⟨rfl, hb2.out⟩

end Go.Proofs.Ytfihccfjboopiaa
