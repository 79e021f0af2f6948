/-
  THE WALK of the reference's Device.
-/
import Derived.Test.YtinjeijjfkkhbaaGreatDoorRefTerm
import Derived.Test.YtinjeijjfkkhbaaGreatDoorMatchDevice
namespace Go.Proofs.YtinjeijjfkkhbaaGreatDoor
open Go.RowKit

set_option maxRecDepth 100000 in
set_option maxHeartbeats 4000000 in
theorem rdevice_any (k : Int) (n : ByteArray) (o : Int) (v : ByteArray) (d : Dev) (w : World) (hd : DevAt w d) (hf : DevFit d) (hv : v.size ≤ 9223372036854775807) :
    Calls Tryz.prog 25 #[termV k n o v, devV d] w fun e w' => e = .returned (.bool (devS k n o v d)) ∧ Below w.heap.size w w' := by
  have hS := fun W => rstatic_any k n o v W
  have hU := fun W => rupward_any k n o v W
  have hH := fun (s : ByteArray) W (hs : s.size ≤ 9223372036854775807) => rholds_any k n o v s W hv hs
  have hG := fun W (h : Below w.heap.size w W) => rget_any d.att d.atv n W (hd.below h)
  have hgs := getS_size (n := n) hf.2.2.2
  have h3 := hf.1
  have h4 := hf.2.1
  have h5 := hf.2.2.1
  unfold devS valK
  obtain ⟨x0, x1, x2, x3, x4, x5, x6, x7, x8, xa, xn, xc, xt⟩ := d
  unfold devV Dev.atv at *
  simp only at hG hgs h3 h4 h5 ⊢
  generalize getS xt n = gv at *
  obtain ⟨gs, gb⟩ := gv
  simp only at hG hgs ⊢
  have hG' := Lib.hid hG; clear hG
  have hgs' := Lib.hid hgs; clear hgs
  have h3' := Lib.hid h3; clear h3
  have h4' := Lib.hid h4; clear h4
  have h5' := Lib.hid h5; clear h5
  clear hd hf hv
  cases hc : (stS k o || upS' k o) with
  | false =>
    obtain ⟨hs0, hu0⟩ := Bool.or_eq_false_iff.1 hc
    rw [hs0] at hS
    rw [hu0] at hU
    unfold termV at *
    have hS' := Lib.hid hS; clear hS
    have hU' := Lib.hid hU; clear hU hs0 hu0 hc hH
    have hb : Hid (Below w.heap.size w ((w.alloc (.cells #[.int .i64 k, .string n, .int .i64 o, .string v] 46)).alloc (.cells #[.int .i64 x0, .int .i64 x1, .string x2, .string x3, .string x4, .string x5, .string x6, .int .i64 x7, .int .i64 x8, .slice xa xn xc] 40))) := ((Below.refl _ _).alloc (Nat.le_refl _) _).alloc (by simp) _
    have hT : Hid (Blk ((w.alloc (.cells #[.int .i64 k, .string n, .int .i64 o, .string v] 46)).alloc (.cells #[.int .i64 x0, .int .i64 x1, .string x2, .string x3, .string x4, .string x5, .string x6, .int .i64 x7, .int .i64 x8, .slice xa xn xc] 40)) w.heap.size 46 #[.int .i64 k, .string n, .int .i64 o, .string v]) := (Blk.new _ _ _).alloc _
    rw [Bool.false_and]
    go_enter Tryz.func25, Tryz.ntmps25
    go_wp2_with fail
    refine (hS'.out _).mono ?_
    rintro e y1 ⟨rfl, hy⟩
    have z1 := Lib.hid (hb.out.trans (hy.mono hb.out.size))
    have hT1 := Lib.hid (hT.out.below hy hT.out.lt)
    have c0 := hT1.out.cell 0
    have c1 := hT1.out.cell 1
    have c2 := hT1.out.cell 2
    have c3 := hT1.out.cell 3
    simp only [List.getElem?_toArray, List.getElem?_cons_zero, List.getElem?_cons_succ] at c0 c1 c2 c3
    clear hy hT hb
    go_wp2_with fail
    refine (hU'.out _).mono ?_
    rintro e y2 ⟨rfl, hy⟩
    have z2 := Lib.hid (z1.out.trans (hy.mono z1.out.size))
    go_wp2_with fail
    go_ret
    exact ⟨rfl, z2.out⟩
  | true =>
    obtain ⟨hm, hk⟩ := keys8 hc
    rw [Bool.true_and]
    clear hc
    rcases hk with rfl | rfl | rfl | rfl | rfl | rfl | rfl | rfl
    · have s1 : stS 2 o = true := by rw [stS_keys, hm]; rfl
      have u1 : upS' 2 o = false := by rw [upS_keys, hm]; rfl
      rw [s1] at hS
      rw [u1] at hU
      clear s1 u1 hm
      rw [if_pos (by omega)]
      generalize holdsS o v = hold at *
      unfold termV at *
      have hS' := Lib.hid hS; clear hS
      have hU' := Lib.hid hU; clear hU
      have hH' := Lib.hid hH; clear hH
      have hb : Hid (Below w.heap.size w ((w.alloc (.cells #[.int .i64 2, .string n, .int .i64 o, .string v] 46)).alloc (.cells #[.int .i64 x0, .int .i64 x1, .string x2, .string x3, .string x4, .string x5, .string x6, .int .i64 x7, .int .i64 x8, .slice xa xn xc] 40))) := ((Below.refl _ _).alloc (Nat.le_refl _) _).alloc (by simp) _
      have hT : Hid (Blk ((w.alloc (.cells #[.int .i64 2, .string n, .int .i64 o, .string v] 46)).alloc (.cells #[.int .i64 x0, .int .i64 x1, .string x2, .string x3, .string x4, .string x5, .string x6, .int .i64 x7, .int .i64 x8, .slice xa xn xc] 40)) w.heap.size 46 #[.int .i64 2, .string n, .int .i64 o, .string v]) := (Blk.new _ _ _).alloc _
      have hD : Hid (Blk ((w.alloc (.cells #[.int .i64 2, .string n, .int .i64 o, .string v] 46)).alloc (.cells #[.int .i64 x0, .int .i64 x1, .string x2, .string x3, .string x4, .string x5, .string x6, .int .i64 x7, .int .i64 x8, .slice xa xn xc] 40)) (w.heap.size + 1) 40 #[.int .i64 x0, .int .i64 x1, .string x2, .string x3, .string x4, .string x5, .string x6, .int .i64 x7, .int .i64 x8, .slice xa xn xc]) := Blk.new_ _ _ _ (by simp)
      go_enter Tryz.func25, Tryz.ntmps25
      go_wp2_with fail
      refine (hS'.out _).mono ?_
      rintro e y1 ⟨rfl, hy⟩
      have z1 := Lib.hid (hb.out.trans (hy.mono hb.out.size))
      have hT1 := Lib.hid (hT.out.below hy hT.out.lt)
      have hD1 := Lib.hid (hD.out.below hy hD.out.lt)
      clear hy hT hD hb
      have c0 := hT1.out.cell 0
      have c1 := hT1.out.cell 1
      have c2 := hT1.out.cell 2
      have c3 := hT1.out.cell 3
      simp only [List.getElem?_toArray, List.getElem?_cons_zero, List.getElem?_cons_succ] at c0 c1 c2 c3
      have d3 := hD1.out.cell 3
      have d4 := hD1.out.cell 4
      have d5 := hD1.out.cell 5
      have d9 := hD1.out.cell 9
      simp only [List.getElem?_toArray, List.getElem?_cons_zero, List.getElem?_cons_succ] at d3 d4 d5 d9
      go_wp2_with fail
      refine (hH'.out _ _ h3'.out).mono ?_
      rintro e y3 ⟨rfl, hy⟩
      have z3 := Lib.hid (z1.out.trans (hy.mono z1.out.size))
      clear hy
      go_wp2_with fail
      go_ret
      exact ⟨rfl, z3.out⟩
    · have s1 : stS 3 o = true := by rw [stS_keys, hm]; rfl
      have u1 : upS' 3 o = false := by rw [upS_keys, hm]; rfl
      rw [s1] at hS
      rw [u1] at hU
      clear s1 u1 hm
      rw [if_neg (by omega), if_pos (by omega)]
      generalize holdsS o v = hold at *
      unfold termV at *
      have hS' := Lib.hid hS; clear hS
      have hU' := Lib.hid hU; clear hU
      have hH' := Lib.hid hH; clear hH
      have hb : Hid (Below w.heap.size w ((w.alloc (.cells #[.int .i64 3, .string n, .int .i64 o, .string v] 46)).alloc (.cells #[.int .i64 x0, .int .i64 x1, .string x2, .string x3, .string x4, .string x5, .string x6, .int .i64 x7, .int .i64 x8, .slice xa xn xc] 40))) := ((Below.refl _ _).alloc (Nat.le_refl _) _).alloc (by simp) _
      have hT : Hid (Blk ((w.alloc (.cells #[.int .i64 3, .string n, .int .i64 o, .string v] 46)).alloc (.cells #[.int .i64 x0, .int .i64 x1, .string x2, .string x3, .string x4, .string x5, .string x6, .int .i64 x7, .int .i64 x8, .slice xa xn xc] 40)) w.heap.size 46 #[.int .i64 3, .string n, .int .i64 o, .string v]) := (Blk.new _ _ _).alloc _
      have hD : Hid (Blk ((w.alloc (.cells #[.int .i64 3, .string n, .int .i64 o, .string v] 46)).alloc (.cells #[.int .i64 x0, .int .i64 x1, .string x2, .string x3, .string x4, .string x5, .string x6, .int .i64 x7, .int .i64 x8, .slice xa xn xc] 40)) (w.heap.size + 1) 40 #[.int .i64 x0, .int .i64 x1, .string x2, .string x3, .string x4, .string x5, .string x6, .int .i64 x7, .int .i64 x8, .slice xa xn xc]) := Blk.new_ _ _ _ (by simp)
      go_enter Tryz.func25, Tryz.ntmps25
      go_wp2_with fail
      refine (hS'.out _).mono ?_
      rintro e y1 ⟨rfl, hy⟩
      have z1 := Lib.hid (hb.out.trans (hy.mono hb.out.size))
      have hT1 := Lib.hid (hT.out.below hy hT.out.lt)
      have hD1 := Lib.hid (hD.out.below hy hD.out.lt)
      clear hy hT hD hb
      have c0 := hT1.out.cell 0
      have c1 := hT1.out.cell 1
      have c2 := hT1.out.cell 2
      have c3 := hT1.out.cell 3
      simp only [List.getElem?_toArray, List.getElem?_cons_zero, List.getElem?_cons_succ] at c0 c1 c2 c3
      have d3 := hD1.out.cell 3
      have d4 := hD1.out.cell 4
      have d5 := hD1.out.cell 5
      have d9 := hD1.out.cell 9
      simp only [List.getElem?_toArray, List.getElem?_cons_zero, List.getElem?_cons_succ] at d3 d4 d5 d9
      go_wp2_with fail
      refine (hH'.out _ _ h4'.out).mono ?_
      rintro e y3 ⟨rfl, hy⟩
      have z3 := Lib.hid (z1.out.trans (hy.mono z1.out.size))
      clear hy
      go_wp2_with fail
      go_ret
      exact ⟨rfl, z3.out⟩
    · have s1 : stS 4 o = true := by rw [stS_keys, hm]; rfl
      have u1 : upS' 4 o = false := by rw [upS_keys, hm]; rfl
      rw [s1] at hS
      rw [u1] at hU
      clear s1 u1 hm
      rw [if_neg (by omega), if_neg (by omega), if_pos (by omega)]
      generalize holdsS o v = hold at *
      unfold termV at *
      have hS' := Lib.hid hS; clear hS
      have hU' := Lib.hid hU; clear hU
      have hH' := Lib.hid hH; clear hH
      have hb : Hid (Below w.heap.size w ((w.alloc (.cells #[.int .i64 4, .string n, .int .i64 o, .string v] 46)).alloc (.cells #[.int .i64 x0, .int .i64 x1, .string x2, .string x3, .string x4, .string x5, .string x6, .int .i64 x7, .int .i64 x8, .slice xa xn xc] 40))) := ((Below.refl _ _).alloc (Nat.le_refl _) _).alloc (by simp) _
      have hT : Hid (Blk ((w.alloc (.cells #[.int .i64 4, .string n, .int .i64 o, .string v] 46)).alloc (.cells #[.int .i64 x0, .int .i64 x1, .string x2, .string x3, .string x4, .string x5, .string x6, .int .i64 x7, .int .i64 x8, .slice xa xn xc] 40)) w.heap.size 46 #[.int .i64 4, .string n, .int .i64 o, .string v]) := (Blk.new _ _ _).alloc _
      have hD : Hid (Blk ((w.alloc (.cells #[.int .i64 4, .string n, .int .i64 o, .string v] 46)).alloc (.cells #[.int .i64 x0, .int .i64 x1, .string x2, .string x3, .string x4, .string x5, .string x6, .int .i64 x7, .int .i64 x8, .slice xa xn xc] 40)) (w.heap.size + 1) 40 #[.int .i64 x0, .int .i64 x1, .string x2, .string x3, .string x4, .string x5, .string x6, .int .i64 x7, .int .i64 x8, .slice xa xn xc]) := Blk.new_ _ _ _ (by simp)
      go_enter Tryz.func25, Tryz.ntmps25
      go_wp2_with fail
      refine (hS'.out _).mono ?_
      rintro e y1 ⟨rfl, hy⟩
      have z1 := Lib.hid (hb.out.trans (hy.mono hb.out.size))
      have hT1 := Lib.hid (hT.out.below hy hT.out.lt)
      have hD1 := Lib.hid (hD.out.below hy hD.out.lt)
      clear hy hT hD hb
      have c0 := hT1.out.cell 0
      have c1 := hT1.out.cell 1
      have c2 := hT1.out.cell 2
      have c3 := hT1.out.cell 3
      simp only [List.getElem?_toArray, List.getElem?_cons_zero, List.getElem?_cons_succ] at c0 c1 c2 c3
      have d3 := hD1.out.cell 3
      have d4 := hD1.out.cell 4
      have d5 := hD1.out.cell 5
      have d9 := hD1.out.cell 9
      simp only [List.getElem?_toArray, List.getElem?_cons_zero, List.getElem?_cons_succ] at d3 d4 d5 d9
      go_wp2_with fail
      refine (hH'.out _ _ h5'.out).mono ?_
      rintro e y3 ⟨rfl, hy⟩
      have z3 := Lib.hid (z1.out.trans (hy.mono z1.out.size))
      clear hy
      go_wp2_with fail
      go_ret
      exact ⟨rfl, z3.out⟩
    · have s1 : stS 5 o = true := by rw [stS_keys, hm]; rfl
      have u1 : upS' 5 o = false := by rw [upS_keys, hm]; rfl
      rw [s1] at hS
      rw [u1] at hU
      clear s1 u1 hm
      rw [if_neg (by omega), if_neg (by omega), if_neg (by omega)]
      generalize holdsS o v = hold at *
      unfold termV at *
      have hS' := Lib.hid hS; clear hS
      have hU' := Lib.hid hU; clear hU
      have hH' := Lib.hid hH; clear hH
      have hb : Hid (Below w.heap.size w ((w.alloc (.cells #[.int .i64 5, .string n, .int .i64 o, .string v] 46)).alloc (.cells #[.int .i64 x0, .int .i64 x1, .string x2, .string x3, .string x4, .string x5, .string x6, .int .i64 x7, .int .i64 x8, .slice xa xn xc] 40))) := ((Below.refl _ _).alloc (Nat.le_refl _) _).alloc (by simp) _
      have hT : Hid (Blk ((w.alloc (.cells #[.int .i64 5, .string n, .int .i64 o, .string v] 46)).alloc (.cells #[.int .i64 x0, .int .i64 x1, .string x2, .string x3, .string x4, .string x5, .string x6, .int .i64 x7, .int .i64 x8, .slice xa xn xc] 40)) w.heap.size 46 #[.int .i64 5, .string n, .int .i64 o, .string v]) := (Blk.new _ _ _).alloc _
      have hD : Hid (Blk ((w.alloc (.cells #[.int .i64 5, .string n, .int .i64 o, .string v] 46)).alloc (.cells #[.int .i64 x0, .int .i64 x1, .string x2, .string x3, .string x4, .string x5, .string x6, .int .i64 x7, .int .i64 x8, .slice xa xn xc] 40)) (w.heap.size + 1) 40 #[.int .i64 x0, .int .i64 x1, .string x2, .string x3, .string x4, .string x5, .string x6, .int .i64 x7, .int .i64 x8, .slice xa xn xc]) := Blk.new_ _ _ _ (by simp)
      go_enter Tryz.func25, Tryz.ntmps25
      go_wp2_with fail
      refine (hS'.out _).mono ?_
      rintro e y1 ⟨rfl, hy⟩
      have z1 := Lib.hid (hb.out.trans (hy.mono hb.out.size))
      have hT1 := Lib.hid (hT.out.below hy hT.out.lt)
      have hD1 := Lib.hid (hD.out.below hy hD.out.lt)
      clear hy hT hD hb
      have c0 := hT1.out.cell 0
      have c1 := hT1.out.cell 1
      have c2 := hT1.out.cell 2
      have c3 := hT1.out.cell 3
      simp only [List.getElem?_toArray, List.getElem?_cons_zero, List.getElem?_cons_succ] at c0 c1 c2 c3
      have d3 := hD1.out.cell 3
      have d4 := hD1.out.cell 4
      have d5 := hD1.out.cell 5
      have d9 := hD1.out.cell 9
      simp only [List.getElem?_toArray, List.getElem?_cons_zero, List.getElem?_cons_succ] at d3 d4 d5 d9
      go_wp2_with fail
      refine (hG'.out _ z1.out).mono ?_
      rintro e y3 ⟨rfl, hy⟩
      have z3 := Lib.hid (z1.out.trans (hy.mono z1.out.size))
      have hT3 := Lib.hid (hT1.out.below hy hT1.out.lt)
      clear hy c0 c1 c2 c3 d3 d4 d5 d9
      have c0 := hT3.out.cell 0
      have c1 := hT3.out.cell 1
      have c2 := hT3.out.cell 2
      have c3 := hT3.out.cell 3
      simp only [List.getElem?_toArray, List.getElem?_cons_zero, List.getElem?_cons_succ] at c0 c1 c2 c3
      go_wp2_with fail
      refine (hH'.out _ _ hgs'.out).mono ?_
      rintro e y4 ⟨rfl, hy⟩
      have z4 := Lib.hid (z3.out.trans (hy.mono z3.out.size))
      clear hy
      go_wp2_with fail
      go_ret
      exact ⟨rfl, z4.out⟩
    · have s1 : stS 8 o = false := by rw [stS_keys, hm]; rfl
      have u1 : upS' 8 o = true := by rw [upS_keys, hm]; rfl
      rw [s1] at hS
      rw [u1] at hU
      clear s1 u1 hm
      rw [if_pos (by omega)]
      generalize holdsS o v = hold at *
      unfold termV at *
      have hS' := Lib.hid hS; clear hS
      have hU' := Lib.hid hU; clear hU
      have hH' := Lib.hid hH; clear hH
      have hb : Hid (Below w.heap.size w ((w.alloc (.cells #[.int .i64 8, .string n, .int .i64 o, .string v] 46)).alloc (.cells #[.int .i64 x0, .int .i64 x1, .string x2, .string x3, .string x4, .string x5, .string x6, .int .i64 x7, .int .i64 x8, .slice xa xn xc] 40))) := ((Below.refl _ _).alloc (Nat.le_refl _) _).alloc (by simp) _
      have hT : Hid (Blk ((w.alloc (.cells #[.int .i64 8, .string n, .int .i64 o, .string v] 46)).alloc (.cells #[.int .i64 x0, .int .i64 x1, .string x2, .string x3, .string x4, .string x5, .string x6, .int .i64 x7, .int .i64 x8, .slice xa xn xc] 40)) w.heap.size 46 #[.int .i64 8, .string n, .int .i64 o, .string v]) := (Blk.new _ _ _).alloc _
      have hD : Hid (Blk ((w.alloc (.cells #[.int .i64 8, .string n, .int .i64 o, .string v] 46)).alloc (.cells #[.int .i64 x0, .int .i64 x1, .string x2, .string x3, .string x4, .string x5, .string x6, .int .i64 x7, .int .i64 x8, .slice xa xn xc] 40)) (w.heap.size + 1) 40 #[.int .i64 x0, .int .i64 x1, .string x2, .string x3, .string x4, .string x5, .string x6, .int .i64 x7, .int .i64 x8, .slice xa xn xc]) := Blk.new_ _ _ _ (by simp)
      go_enter Tryz.func25, Tryz.ntmps25
      go_wp2_with fail
      refine (hS'.out _).mono ?_
      rintro e y1 ⟨rfl, hy⟩
      have z1 := Lib.hid (hb.out.trans (hy.mono hb.out.size))
      have hT1 := Lib.hid (hT.out.below hy hT.out.lt)
      have hD1 := Lib.hid (hD.out.below hy hD.out.lt)
      clear hy hT hD hb
      have c0 := hT1.out.cell 0
      have c1 := hT1.out.cell 1
      have c2 := hT1.out.cell 2
      have c3 := hT1.out.cell 3
      simp only [List.getElem?_toArray, List.getElem?_cons_zero, List.getElem?_cons_succ] at c0 c1 c2 c3
      go_wp2_with fail
      refine (hU'.out _).mono ?_
      rintro e y2 ⟨rfl, hy⟩
      have z2 := Lib.hid (z1.out.trans (hy.mono z1.out.size))
      have hT2 := Lib.hid (hT1.out.below hy hT1.out.lt)
      have hD2 := Lib.hid (hD1.out.below hy hD1.out.lt)
      clear hy hT1 hD1 z1 c0 c1 c2 c3
      have c0 := hT2.out.cell 0
      have c1 := hT2.out.cell 1
      have c2 := hT2.out.cell 2
      have c3 := hT2.out.cell 3
      simp only [List.getElem?_toArray, List.getElem?_cons_zero, List.getElem?_cons_succ] at c0 c1 c2 c3
      have d3 := hD2.out.cell 3
      have d4 := hD2.out.cell 4
      have d5 := hD2.out.cell 5
      have d9 := hD2.out.cell 9
      simp only [List.getElem?_toArray, List.getElem?_cons_zero, List.getElem?_cons_succ] at d3 d4 d5 d9
      go_wp2_with fail
      refine (hH'.out _ _ h3'.out).mono ?_
      rintro e y3 ⟨rfl, hy⟩
      have z3 := Lib.hid (z2.out.trans (hy.mono z2.out.size))
      clear hy
      go_wp2_with fail
      go_ret
      exact ⟨rfl, z3.out⟩
    · have s1 : stS 9 o = false := by rw [stS_keys, hm]; rfl
      have u1 : upS' 9 o = true := by rw [upS_keys, hm]; rfl
      rw [s1] at hS
      rw [u1] at hU
      clear s1 u1 hm
      rw [if_neg (by omega), if_pos (by omega)]
      generalize holdsS o v = hold at *
      unfold termV at *
      have hS' := Lib.hid hS; clear hS
      have hU' := Lib.hid hU; clear hU
      have hH' := Lib.hid hH; clear hH
      have hb : Hid (Below w.heap.size w ((w.alloc (.cells #[.int .i64 9, .string n, .int .i64 o, .string v] 46)).alloc (.cells #[.int .i64 x0, .int .i64 x1, .string x2, .string x3, .string x4, .string x5, .string x6, .int .i64 x7, .int .i64 x8, .slice xa xn xc] 40))) := ((Below.refl _ _).alloc (Nat.le_refl _) _).alloc (by simp) _
      have hT : Hid (Blk ((w.alloc (.cells #[.int .i64 9, .string n, .int .i64 o, .string v] 46)).alloc (.cells #[.int .i64 x0, .int .i64 x1, .string x2, .string x3, .string x4, .string x5, .string x6, .int .i64 x7, .int .i64 x8, .slice xa xn xc] 40)) w.heap.size 46 #[.int .i64 9, .string n, .int .i64 o, .string v]) := (Blk.new _ _ _).alloc _
      have hD : Hid (Blk ((w.alloc (.cells #[.int .i64 9, .string n, .int .i64 o, .string v] 46)).alloc (.cells #[.int .i64 x0, .int .i64 x1, .string x2, .string x3, .string x4, .string x5, .string x6, .int .i64 x7, .int .i64 x8, .slice xa xn xc] 40)) (w.heap.size + 1) 40 #[.int .i64 x0, .int .i64 x1, .string x2, .string x3, .string x4, .string x5, .string x6, .int .i64 x7, .int .i64 x8, .slice xa xn xc]) := Blk.new_ _ _ _ (by simp)
      go_enter Tryz.func25, Tryz.ntmps25
      go_wp2_with fail
      refine (hS'.out _).mono ?_
      rintro e y1 ⟨rfl, hy⟩
      have z1 := Lib.hid (hb.out.trans (hy.mono hb.out.size))
      have hT1 := Lib.hid (hT.out.below hy hT.out.lt)
      have hD1 := Lib.hid (hD.out.below hy hD.out.lt)
      clear hy hT hD hb
      have c0 := hT1.out.cell 0
      have c1 := hT1.out.cell 1
      have c2 := hT1.out.cell 2
      have c3 := hT1.out.cell 3
      simp only [List.getElem?_toArray, List.getElem?_cons_zero, List.getElem?_cons_succ] at c0 c1 c2 c3
      go_wp2_with fail
      refine (hU'.out _).mono ?_
      rintro e y2 ⟨rfl, hy⟩
      have z2 := Lib.hid (z1.out.trans (hy.mono z1.out.size))
      have hT2 := Lib.hid (hT1.out.below hy hT1.out.lt)
      have hD2 := Lib.hid (hD1.out.below hy hD1.out.lt)
      clear hy hT1 hD1 z1 c0 c1 c2 c3
      have c0 := hT2.out.cell 0
      have c1 := hT2.out.cell 1
      have c2 := hT2.out.cell 2
      have c3 := hT2.out.cell 3
      simp only [List.getElem?_toArray, List.getElem?_cons_zero, List.getElem?_cons_succ] at c0 c1 c2 c3
      have d3 := hD2.out.cell 3
      have d4 := hD2.out.cell 4
      have d5 := hD2.out.cell 5
      have d9 := hD2.out.cell 9
      simp only [List.getElem?_toArray, List.getElem?_cons_zero, List.getElem?_cons_succ] at d3 d4 d5 d9
      go_wp2_with fail
      refine (hH'.out _ _ h4'.out).mono ?_
      rintro e y3 ⟨rfl, hy⟩
      have z3 := Lib.hid (z2.out.trans (hy.mono z2.out.size))
      clear hy
      go_wp2_with fail
      go_ret
      exact ⟨rfl, z3.out⟩
    · have s1 : stS 10 o = false := by rw [stS_keys, hm]; rfl
      have u1 : upS' 10 o = true := by rw [upS_keys, hm]; rfl
      rw [s1] at hS
      rw [u1] at hU
      clear s1 u1 hm
      rw [if_neg (by omega), if_neg (by omega), if_pos (by omega)]
      generalize holdsS o v = hold at *
      unfold termV at *
      have hS' := Lib.hid hS; clear hS
      have hU' := Lib.hid hU; clear hU
      have hH' := Lib.hid hH; clear hH
      have hb : Hid (Below w.heap.size w ((w.alloc (.cells #[.int .i64 10, .string n, .int .i64 o, .string v] 46)).alloc (.cells #[.int .i64 x0, .int .i64 x1, .string x2, .string x3, .string x4, .string x5, .string x6, .int .i64 x7, .int .i64 x8, .slice xa xn xc] 40))) := ((Below.refl _ _).alloc (Nat.le_refl _) _).alloc (by simp) _
      have hT : Hid (Blk ((w.alloc (.cells #[.int .i64 10, .string n, .int .i64 o, .string v] 46)).alloc (.cells #[.int .i64 x0, .int .i64 x1, .string x2, .string x3, .string x4, .string x5, .string x6, .int .i64 x7, .int .i64 x8, .slice xa xn xc] 40)) w.heap.size 46 #[.int .i64 10, .string n, .int .i64 o, .string v]) := (Blk.new _ _ _).alloc _
      have hD : Hid (Blk ((w.alloc (.cells #[.int .i64 10, .string n, .int .i64 o, .string v] 46)).alloc (.cells #[.int .i64 x0, .int .i64 x1, .string x2, .string x3, .string x4, .string x5, .string x6, .int .i64 x7, .int .i64 x8, .slice xa xn xc] 40)) (w.heap.size + 1) 40 #[.int .i64 x0, .int .i64 x1, .string x2, .string x3, .string x4, .string x5, .string x6, .int .i64 x7, .int .i64 x8, .slice xa xn xc]) := Blk.new_ _ _ _ (by simp)
      go_enter Tryz.func25, Tryz.ntmps25
      go_wp2_with fail
      refine (hS'.out _).mono ?_
      rintro e y1 ⟨rfl, hy⟩
      have z1 := Lib.hid (hb.out.trans (hy.mono hb.out.size))
      have hT1 := Lib.hid (hT.out.below hy hT.out.lt)
      have hD1 := Lib.hid (hD.out.below hy hD.out.lt)
      clear hy hT hD hb
      have c0 := hT1.out.cell 0
      have c1 := hT1.out.cell 1
      have c2 := hT1.out.cell 2
      have c3 := hT1.out.cell 3
      simp only [List.getElem?_toArray, List.getElem?_cons_zero, List.getElem?_cons_succ] at c0 c1 c2 c3
      go_wp2_with fail
      refine (hU'.out _).mono ?_
      rintro e y2 ⟨rfl, hy⟩
      have z2 := Lib.hid (z1.out.trans (hy.mono z1.out.size))
      have hT2 := Lib.hid (hT1.out.below hy hT1.out.lt)
      have hD2 := Lib.hid (hD1.out.below hy hD1.out.lt)
      clear hy hT1 hD1 z1 c0 c1 c2 c3
      have c0 := hT2.out.cell 0
      have c1 := hT2.out.cell 1
      have c2 := hT2.out.cell 2
      have c3 := hT2.out.cell 3
      simp only [List.getElem?_toArray, List.getElem?_cons_zero, List.getElem?_cons_succ] at c0 c1 c2 c3
      have d3 := hD2.out.cell 3
      have d4 := hD2.out.cell 4
      have d5 := hD2.out.cell 5
      have d9 := hD2.out.cell 9
      simp only [List.getElem?_toArray, List.getElem?_cons_zero, List.getElem?_cons_succ] at d3 d4 d5 d9
      go_wp2_with fail
      refine (hH'.out _ _ h5'.out).mono ?_
      rintro e y3 ⟨rfl, hy⟩
      have z3 := Lib.hid (z2.out.trans (hy.mono z2.out.size))
      clear hy
      go_wp2_with fail
      go_ret
      exact ⟨rfl, z3.out⟩
    · have s1 : stS 11 o = false := by rw [stS_keys, hm]; rfl
      have u1 : upS' 11 o = true := by rw [upS_keys, hm]; rfl
      rw [s1] at hS
      rw [u1] at hU
      clear s1 u1 hm
      rw [if_neg (by omega), if_neg (by omega), if_neg (by omega)]
      generalize holdsS o v = hold at *
      unfold termV at *
      have hS' := Lib.hid hS; clear hS
      have hU' := Lib.hid hU; clear hU
      have hH' := Lib.hid hH; clear hH
      have hb : Hid (Below w.heap.size w ((w.alloc (.cells #[.int .i64 11, .string n, .int .i64 o, .string v] 46)).alloc (.cells #[.int .i64 x0, .int .i64 x1, .string x2, .string x3, .string x4, .string x5, .string x6, .int .i64 x7, .int .i64 x8, .slice xa xn xc] 40))) := ((Below.refl _ _).alloc (Nat.le_refl _) _).alloc (by simp) _
      have hT : Hid (Blk ((w.alloc (.cells #[.int .i64 11, .string n, .int .i64 o, .string v] 46)).alloc (.cells #[.int .i64 x0, .int .i64 x1, .string x2, .string x3, .string x4, .string x5, .string x6, .int .i64 x7, .int .i64 x8, .slice xa xn xc] 40)) w.heap.size 46 #[.int .i64 11, .string n, .int .i64 o, .string v]) := (Blk.new _ _ _).alloc _
      have hD : Hid (Blk ((w.alloc (.cells #[.int .i64 11, .string n, .int .i64 o, .string v] 46)).alloc (.cells #[.int .i64 x0, .int .i64 x1, .string x2, .string x3, .string x4, .string x5, .string x6, .int .i64 x7, .int .i64 x8, .slice xa xn xc] 40)) (w.heap.size + 1) 40 #[.int .i64 x0, .int .i64 x1, .string x2, .string x3, .string x4, .string x5, .string x6, .int .i64 x7, .int .i64 x8, .slice xa xn xc]) := Blk.new_ _ _ _ (by simp)
      go_enter Tryz.func25, Tryz.ntmps25
      go_wp2_with fail
      refine (hS'.out _).mono ?_
      rintro e y1 ⟨rfl, hy⟩
      have z1 := Lib.hid (hb.out.trans (hy.mono hb.out.size))
      have hT1 := Lib.hid (hT.out.below hy hT.out.lt)
      have hD1 := Lib.hid (hD.out.below hy hD.out.lt)
      clear hy hT hD hb
      have c0 := hT1.out.cell 0
      have c1 := hT1.out.cell 1
      have c2 := hT1.out.cell 2
      have c3 := hT1.out.cell 3
      simp only [List.getElem?_toArray, List.getElem?_cons_zero, List.getElem?_cons_succ] at c0 c1 c2 c3
      go_wp2_with fail
      refine (hU'.out _).mono ?_
      rintro e y2 ⟨rfl, hy⟩
      have z2 := Lib.hid (z1.out.trans (hy.mono z1.out.size))
      have hT2 := Lib.hid (hT1.out.below hy hT1.out.lt)
      have hD2 := Lib.hid (hD1.out.below hy hD1.out.lt)
      clear hy hT1 hD1 z1 c0 c1 c2 c3
      have c0 := hT2.out.cell 0
      have c1 := hT2.out.cell 1
      have c2 := hT2.out.cell 2
      have c3 := hT2.out.cell 3
      simp only [List.getElem?_toArray, List.getElem?_cons_zero, List.getElem?_cons_succ] at c0 c1 c2 c3
      have d3 := hD2.out.cell 3
      have d4 := hD2.out.cell 4
      have d5 := hD2.out.cell 5
      have d9 := hD2.out.cell 9
      simp only [List.getElem?_toArray, List.getElem?_cons_zero, List.getElem?_cons_succ] at d3 d4 d5 d9
      go_wp2_with fail
      refine (hG'.out _ z2.out).mono ?_
      rintro e y3 ⟨rfl, hy⟩
      have z3 := Lib.hid (z2.out.trans (hy.mono z2.out.size))
      have hT3 := Lib.hid (hT2.out.below hy hT2.out.lt)
      clear hy c0 c1 c2 c3 d3 d4 d5 d9
      have c0 := hT3.out.cell 0
      have c1 := hT3.out.cell 1
      have c2 := hT3.out.cell 2
      have c3 := hT3.out.cell 3
      simp only [List.getElem?_toArray, List.getElem?_cons_zero, List.getElem?_cons_succ] at c0 c1 c2 c3
      go_wp2_with fail
      refine (hH'.out _ _ hgs'.out).mono ?_
      rintro e y4 ⟨rfl, hy⟩
      have z4 := Lib.hid (z3.out.trans (hy.mono z3.out.size))
      clear hy
      go_wp2_with fail
      go_ret
      exact ⟨rfl, z4.out⟩

end Go.Proofs.YtinjeijjfkkhbaaGreatDoor
