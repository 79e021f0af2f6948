/-
  THE WALK of coldplugref04.clash: that it answers, and turns no older block.
-/
import Derived.Test.YtinjeijjfkkhbaaGreatDoorZCheck
namespace Go.Proofs.YtinjeijjfkkhbaaGreatDoor
open Go.RowKit

set_option maxRecDepth 100000 in
set_option maxHeartbeats 4000000 in
theorem zclash_any (d f : Dev) (m : Int) (w : World) (s3 : d.orig.size ≤ 100) (r3 : f.orig.size ≤ 100) (hm0 : MaxIs m w) : Calls Tryz.prog 43 #[devV d, devV f] w (Says w) := by
  have hN1 := fun W h => znode_any d m W s3 h
  have hN2 := fun W h => znode_any f m W r3 h
  obtain ⟨x0, x1, x2, x3, x4, x5, x6, x7, x8, xa, xn, xc, xt⟩ := d
  obtain ⟨y0, y1, y2, y3, y4, y5, y6, y7, y8, ya, yn, yc, yt⟩ := f
  unfold devV at hN1 hN2 ⊢
  simp only at hN1 hN2 ⊢
  have hN1' := Lib.hid hN1; clear hN1
  have hN2' := Lib.hid hN2; clear hN2
  have hb : Hid (Below w.heap.size w ((w.alloc (.cells #[.int .i64 x0, .int .i64 x1, .string x2, .string x3, .string x4, .string x5, .string x6, .int .i64 x7, .int .i64 x8, .slice xa xn xc] 40)).alloc (.cells #[.int .i64 y0, .int .i64 y1, .string y2, .string y3, .string y4, .string y5, .string y6, .int .i64 y7, .int .i64 y8, .slice ya yn yc] 40))) := ((Below.refl _ _).alloc (Nat.le_refl _) _).alloc (by simp) _
  have hD : Hid (Blk ((w.alloc (.cells #[.int .i64 x0, .int .i64 x1, .string x2, .string x3, .string x4, .string x5, .string x6, .int .i64 x7, .int .i64 x8, .slice xa xn xc] 40)).alloc (.cells #[.int .i64 y0, .int .i64 y1, .string y2, .string y3, .string y4, .string y5, .string y6, .int .i64 y7, .int .i64 y8, .slice ya yn yc] 40)) w.heap.size 40 #[.int .i64 x0, .int .i64 x1, .string x2, .string x3, .string x4, .string x5, .string x6, .int .i64 x7, .int .i64 x8, .slice xa xn xc]) := (Blk.new _ _ _).alloc _
  have hE : Hid (Blk ((w.alloc (.cells #[.int .i64 x0, .int .i64 x1, .string x2, .string x3, .string x4, .string x5, .string x6, .int .i64 x7, .int .i64 x8, .slice xa xn xc] 40)).alloc (.cells #[.int .i64 y0, .int .i64 y1, .string y2, .string y3, .string y4, .string y5, .string y6, .int .i64 y7, .int .i64 y8, .slice ya yn yc] 40)) (w.heap.size + 1) 40 #[.int .i64 y0, .int .i64 y1, .string y2, .string y3, .string y4, .string y5, .string y6, .int .i64 y7, .int .i64 y8, .slice ya yn yc]) := Blk.new_ _ _ _ (by simp)
  have hm : Hid (MaxIs m ((w.alloc (.cells #[.int .i64 x0, .int .i64 x1, .string x2, .string x3, .string x4, .string x5, .string x6, .int .i64 x7, .int .i64 x8, .slice xa xn xc] 40)).alloc (.cells #[.int .i64 y0, .int .i64 y1, .string y2, .string y3, .string y4, .string y5, .string y6, .int .i64 y7, .int .i64 y8, .slice ya yn yc] 40))) := hm0.below hb.out
  clear hm0 s3 r3
  go_enter Tryz.func43, Tryz.ntmps43
  go_upto_region 1 with fail
  generalize ((w.alloc (.cells #[.int .i64 x0, .int .i64 x1, .string x2, .string x3, .string x4, .string x5, .string x6, .int .i64 x7, .int .i64 x8, .slice xa xn xc] 40)).alloc (.cells #[.int .i64 y0, .int .i64 y1, .string y2, .string y3, .string y4, .string y5, .string y6, .int .i64 y7, .int .i64 y8, .slice ya yn yc] 40)) = w0 at *
  have c2 := hD.out.cell 2
  have c7 := hD.out.cell 7
  have c8 := hD.out.cell 8
  simp only [List.getElem?_toArray, List.getElem?_cons_zero, List.getElem?_cons_succ] at c2 c7 c8
  have d2 := hE.out.cell 2
  have d7 := hE.out.cell 7
  have d8 := hE.out.cell 8
  simp only [List.getElem?_toArray, List.getElem?_cons_zero, List.getElem?_cons_succ] at d2 d7 d8
  go_cut [23] (fun s23 wx => ∃ b : Bool, s23 = .bool b ∧ wx = w0)
  case first =>
    obtain ⟨t1, h1⟩ : ∃ t, (x7 == 4) = t := ⟨_, rfl⟩
    obtain ⟨t2, h2⟩ : ∃ t, (y7 == 4) = t := ⟨_, rfl⟩
    obtain ⟨t3, h3⟩ : ∃ t, (x2.toList == y2.toList) = t := ⟨_, rfl⟩
    cases t1 <;> cases t2 <;> cases t3
    all_goals
      go_wp2_with fail
      go_meet
      exact ⟨_, rfl, rfl⟩
  case rest =>
    obtain ⟨b, rfl, rfl⟩ := hcut
    generalize wc = w0 at *
    cases b with
    | true =>
      go_wp2_with fail
      go_ret
      exact Says.mk' hb.out
    | false =>
      go_wp2_with (first
        | (refine wpList_load_row rfl 40 (.tmp 2) rfl w.heap.size rfl 40 _ (0, 0) _ hD.out Tryz.underlying40 rfl rfl ?_)
        | (refine wpList_load_row rfl 40 (.tmp 3) rfl (w.heap.size + 1) rfl 40 _ (0, 0) _ hE.out Tryz.underlying40 rfl rfl ?_)
        | fail)
      refine (hN1'.out _ hm.out).mono ?_
      rintro e v0 ⟨⟨s, ok, rfl, zs⟩, hbx⟩
      have hb2 := Lib.hid (hb.out.trans (hbx.mono hb.out.size))
      have hD2 := Lib.hid (hD.out.below hbx hD.out.lt)
      have hE2 := Lib.hid (hE.out.below hbx hE.out.lt)
      have hm2 := Lib.hid (hm.out.below hbx)
      clear c2 c7 c8 d2 d7 d8 hb hD hE hm hbx
      have hb := hb2
      have hD := hD2
      have hE := hE2
      have hm := hm2
      clear hb2 hD2 hE2 hm2
      have c2 := hD.out.cell 2
      have c7 := hD.out.cell 7
      have c8 := hD.out.cell 8
      simp only [List.getElem?_toArray, List.getElem?_cons_zero, List.getElem?_cons_succ] at c2 c7 c8
      have d2 := hE.out.cell 2
      have d7 := hE.out.cell 7
      have d8 := hE.out.cell 8
      simp only [List.getElem?_toArray, List.getElem?_cons_zero, List.getElem?_cons_succ] at d2 d7 d8
      go_wp2_with (first
        | (refine wpList_load_row rfl 40 (.tmp 2) rfl w.heap.size rfl 40 _ (0, 0) _ hD.out Tryz.underlying40 rfl rfl ?_)
        | (refine wpList_load_row rfl 40 (.tmp 3) rfl (w.heap.size + 1) rfl 40 _ (0, 0) _ hE.out Tryz.underlying40 rfl rfl ?_)
        | fail)
      refine (hN2'.out _ hm.out).mono ?_
      rintro e v1 ⟨⟨u, isu, rfl, zu⟩, hbx⟩
      have hb2 := Lib.hid (hb.out.trans (hbx.mono hb.out.size))
      have hD2 := Lib.hid (hD.out.below hbx hD.out.lt)
      have hE2 := Lib.hid (hE.out.below hbx hE.out.lt)
      have hm2 := Lib.hid (hm.out.below hbx)
      clear c2 c7 c8 d2 d7 d8 hb hD hE hm hbx
      have hb := hb2
      have hD := hD2
      have hE := hE2
      have hm := hm2
      clear hb2 hD2 hE2 hm2
      have c2 := hD.out.cell 2
      have c7 := hD.out.cell 7
      have c8 := hD.out.cell 8
      simp only [List.getElem?_toArray, List.getElem?_cons_zero, List.getElem?_cons_succ] at c2 c7 c8
      have d2 := hE.out.cell 2
      have d7 := hE.out.cell 7
      have d8 := hE.out.cell 8
      simp only [List.getElem?_toArray, List.getElem?_cons_zero, List.getElem?_cons_succ] at d2 d7 d8
      cases ok with
      | false =>
        go_wp2_with fail
        go_ret
        exact Says.mk' hb.out
      | true =>
        cases isu with
        | false =>
          go_wp2_with fail
          go_ret
          exact Says.mk' hb.out
        | true =>
          obtain ⟨t3, h3⟩ : ∃ t, (s.toList == u.toList) = t := ⟨_, rfl⟩
          have hB1 := Lib.hid (fun W => zbeneath_any s u W (by omega))
          have hB2 := Lib.hid (fun W => zbeneath_any u s W (by omega))
          obtain ⟨t1, h1⟩ : ∃ t, (x7 == y7) = t := ⟨_, rfl⟩
          obtain ⟨t2, h2⟩ : ∃ t, (x8 == y8) = t := ⟨_, rfl⟩
          cases t1 with
          | true =>
            cases t2 with
            | true =>
              go_wp2_with fail
              go_ret
              exact Says.mk' hb.out
            | false =>
              cases t3 with
              | true =>
                go_wp2_with fail
                go_ret
                exact Says.mk' hb.out
              | false =>
                go_wp2_with fail
                refine (hB1.out _).mono ?_
                rintro e v3 ⟨⟨b1, rfl⟩, hbx⟩
                have hb3 := Lib.hid (hb.out.trans (hbx.mono hb.out.size)); clear hbx
                cases b1 with
                | true =>
                  go_wp2_with fail
                  go_ret
                  exact Says.mk' hb3.out
                | false =>
                  go_wp2_with fail
                  refine (hB2.out _).mono ?_
                  rintro e v4 ⟨⟨b2, rfl⟩, hbx⟩
                  have hb4 := Lib.hid (hb3.out.trans (hbx.mono hb3.out.size)); clear hbx
                  cases b2
                  all_goals
                    go_wp2_with fail
                    go_ret
                    exact Says.mk' hb4.out
          | false =>
            cases t3 with
            | true =>
              go_wp2_with fail
              go_ret
              exact Says.mk' hb.out
            | false =>
              go_wp2_with fail
              refine (hB1.out _).mono ?_
              rintro e v3 ⟨⟨b1, rfl⟩, hbx⟩
              have hb3 := Lib.hid (hb.out.trans (hbx.mono hb.out.size)); clear hbx
              cases b1 with
              | true =>
                go_wp2_with fail
                go_ret
                exact Says.mk' hb3.out
              | false =>
                go_wp2_with fail
                refine (hB2.out _).mono ?_
                rintro e v4 ⟨⟨b2, rfl⟩, hbx⟩
                have hb4 := Lib.hid (hb3.out.trans (hbx.mono hb3.out.size)); clear hbx
                cases b2
                all_goals
                  go_wp2_with fail
                  go_ret
                  exact Says.mk' hb4.out

end Go.Proofs.YtinjeijjfkkhbaaGreatDoor
