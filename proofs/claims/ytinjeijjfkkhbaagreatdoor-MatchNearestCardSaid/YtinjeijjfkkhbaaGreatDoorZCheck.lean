/-
  THE WALKS of coldplugref03.Check and coldplugref04.clash: that they answer, and turn no older block.
-/
import Derived.Test.YtinjeijjfkkhbaaGreatDoorZNode
import Derived.Test.YtinjeijjfkkhbaaGreatDoorRef3Set
namespace Go.Proofs.YtinjeijjfkkhbaaGreatDoor
open Go.RowKit

/-- A device with short texts. -/
def DevSm (d : Dev) : Prop := d.name.size ≤ 100 ∧ d.orig.size ≤ 100 ∧ d.sub.size ≤ 100 ∧ d.drv.size ≤ 100 ∧ d.ali.size ≤ 100 ∧ AttSm d.att ∧ d.att.length ≤ 1000

set_option maxRecDepth 100000 in
set_option maxHeartbeats 8000000 in
theorem zcheck_any (d : Dev) (m : Int) (w : World) (hd : DevAt w d) (hs : DevSm d) (hm0 : MaxIs m w) : Calls Tryz.prog 39 #[devV d] w (SaysI w) := by
  obtain ⟨x0, x1, x2, x3, x4, x5, x6, x7, x8, xa, xn, xc, xt⟩ := d
  obtain ⟨s2, s3, s4, s5, s6, sa, sn⟩ := hs
  unfold devV
  simp only at s2 s3 s4 s5 s6 sa sn ⊢
  have hd0 : RowAt w (.slice xa xn xc) 2 (xt.map attC) := hd
  clear hd
  have hxn : xt.length = xn := by
    rcases hd0.2 with ⟨h1, h0⟩ | ⟨g, o, cap, h1, _⟩
    · cases h1; rw [List.map_eq_nil_iff] at h0; rw [h0]; rfl
    · cases h1; simp
  have hb : Hid (Below w.heap.size w (w.alloc (.cells #[.int .i64 x0, .int .i64 x1, .string x2, .string x3, .string x4, .string x5, .string x6, .int .i64 x7, .int .i64 x8, .slice xa xn xc] 40))) := (Below.refl _ _).alloc (Nat.le_refl _) _
  have hD : Hid (Blk (w.alloc (.cells #[.int .i64 x0, .int .i64 x1, .string x2, .string x3, .string x4, .string x5, .string x6, .int .i64 x7, .int .i64 x8, .slice xa xn xc] 40)) w.heap.size 40 #[.int .i64 x0, .int .i64 x1, .string x2, .string x3, .string x4, .string x5, .string x6, .int .i64 x7, .int .i64 x8, .slice xa xn xc]) := Blk.new _ _ _
  have hm : Hid (MaxIs m (w.alloc (.cells #[.int .i64 x0, .int .i64 x1, .string x2, .string x3, .string x4, .string x5, .string x6, .int .i64 x7, .int .i64 x8, .slice xa xn xc] 40))) := hm0.below hb.out
  have hd' := Lib.hid hd0; clear hd0 hm0
  have sa' := Lib.hid sa; clear sa
  have hxn' := Lib.hid hxn; clear hxn
  go_enter Tryz.func39, Tryz.ntmps39
  go_upto_region 1 with fail
  generalize w.alloc (.cells #[.int .i64 x0, .int .i64 x1, .string x2, .string x3, .string x4, .string x5, .string x6, .int .i64 x7, .int .i64 x8, .slice xa xn xc] 40) = w0 at *
  have c0 := hD.out.cell 0
  have c1 := hD.out.cell 1
  have c2 := hD.out.cell 2
  have c3 := hD.out.cell 3
  have c4 := hD.out.cell 4
  have c5 := hD.out.cell 5
  have c6 := hD.out.cell 6
  have c7 := hD.out.cell 7
  have c8 := hD.out.cell 8
  have c9 := hD.out.cell 9
  simp only [List.getElem?_toArray, List.getElem?_cons_zero, List.getElem?_cons_succ] at c0 c1 c2 c3 c4 c5 c6 c7 c8 c9
  by_cases h1 : x0 < 1
  · skip
    go_wp2_with fail
    go_ret
    exact SaysI.mk' hb.out
  by_cases h2 : 1073741824 < x0
  · skip
    go_wp2_with fail
    go_ret
    exact SaysI.mk' hb.out
  by_cases h3 : x1 < 0
  · skip
    go_wp2_with fail
    go_ret
    exact SaysI.mk' hb.out
  by_cases h4 : 1073741824 < x1
  · skip
    go_wp2_with fail
    go_ret
    exact SaysI.mk' hb.out
  obtain ⟨t1, ht1⟩ : ∃ t, (x1 == x0) = t := ⟨_, rfl⟩
  cases t1 with
  | true =>
    go_wp2_with fail
    go_ret
    exact SaysI.mk' hb.out
  | false =>
    go_upto_region 3 with fail
    clear h1 h2 h3 h4 ht1
    go_cut [63] (fun sX wx => ∃ b : Bool, sX = .bool b ∧ Hid (Below w.heap.size w wx) ∧ Hid (Blk wx w.heap.size 40 #[.int .i64 x0, .int .i64 x1, .string x2, .string x3, .string x4, .string x5, .string x6, .int .i64 x7, .int .i64 x8, .slice xa xn xc]) ∧ Hid (MaxIs m wx))
    case first =>
      have hCall := Lib.hid (fun W => zvalid_any x2 W (by omega))
      go_wp2_with fail
      refine (hCall.out _).mono ?_
      rintro e v1 ⟨⟨b0, rfl⟩, hbx⟩
      have hb1 := Lib.hid (hb.out.trans (hbx.mono hb.out.size))
      have hD1 := Lib.hid (hD.out.below hbx hD.out.lt)
      have hm1 := Lib.hid (hm.out.below hbx)
      clear c0 c1 c2 c3 c4 c5 c6 c7 c8 c9
      clear hb hD hm hbx hCall
      have hb := hb1
      have hD := hD1
      have hm := hm1
      clear hb1 hD1 hm1
      have c0 := hD.out.cell 0
      have c1 := hD.out.cell 1
      have c2 := hD.out.cell 2
      have c3 := hD.out.cell 3
      have c4 := hD.out.cell 4
      have c5 := hD.out.cell 5
      have c6 := hD.out.cell 6
      have c7 := hD.out.cell 7
      have c8 := hD.out.cell 8
      have c9 := hD.out.cell 9
      simp only [List.getElem?_toArray, List.getElem?_cons_zero, List.getElem?_cons_succ] at c0 c1 c2 c3 c4 c5 c6 c7 c8 c9
      cases b0 with
      | false =>
        go_wp2_with fail
        go_meet
        exact ⟨_, rfl, hb, hD, hm⟩
      | true =>
        have hCall := Lib.hid (fun W => zvalid_any x3 W (by omega))
        go_wp2_with fail
        refine (hCall.out _).mono ?_
        rintro e v2 ⟨⟨b1, rfl⟩, hbx⟩
        have hb2 := Lib.hid (hb.out.trans (hbx.mono hb.out.size))
        have hD2 := Lib.hid (hD.out.below hbx hD.out.lt)
        have hm2 := Lib.hid (hm.out.below hbx)
        clear c0 c1 c2 c3 c4 c5 c6 c7 c8 c9
        clear hb hD hm hbx hCall
        have hb := hb2
        have hD := hD2
        have hm := hm2
        clear hb2 hD2 hm2
        have c0 := hD.out.cell 0
        have c1 := hD.out.cell 1
        have c2 := hD.out.cell 2
        have c3 := hD.out.cell 3
        have c4 := hD.out.cell 4
        have c5 := hD.out.cell 5
        have c6 := hD.out.cell 6
        have c7 := hD.out.cell 7
        have c8 := hD.out.cell 8
        have c9 := hD.out.cell 9
        simp only [List.getElem?_toArray, List.getElem?_cons_zero, List.getElem?_cons_succ] at c0 c1 c2 c3 c4 c5 c6 c7 c8 c9
        cases b1 with
        | false =>
          go_wp2_with fail
          go_meet
          exact ⟨_, rfl, hb, hD, hm⟩
        | true =>
          have hCall := Lib.hid (fun W => zvalid_any x4 W (by omega))
          go_wp2_with fail
          refine (hCall.out _).mono ?_
          rintro e v3 ⟨⟨b2, rfl⟩, hbx⟩
          have hb3 := Lib.hid (hb.out.trans (hbx.mono hb.out.size))
          have hD3 := Lib.hid (hD.out.below hbx hD.out.lt)
          have hm3 := Lib.hid (hm.out.below hbx)
          clear c0 c1 c2 c3 c4 c5 c6 c7 c8 c9
          clear hb hD hm hbx hCall
          have hb := hb3
          have hD := hD3
          have hm := hm3
          clear hb3 hD3 hm3
          have c0 := hD.out.cell 0
          have c1 := hD.out.cell 1
          have c2 := hD.out.cell 2
          have c3 := hD.out.cell 3
          have c4 := hD.out.cell 4
          have c5 := hD.out.cell 5
          have c6 := hD.out.cell 6
          have c7 := hD.out.cell 7
          have c8 := hD.out.cell 8
          have c9 := hD.out.cell 9
          simp only [List.getElem?_toArray, List.getElem?_cons_zero, List.getElem?_cons_succ] at c0 c1 c2 c3 c4 c5 c6 c7 c8 c9
          cases b2 with
          | false =>
            go_wp2_with fail
            go_meet
            exact ⟨_, rfl, hb, hD, hm⟩
          | true =>
            obtain ⟨t5, h5⟩ : ∃ t, (x5.toList == []) = t := ⟨_, rfl⟩
            cases t5 with
            | true =>
              have hCall := Lib.hid (fun W => ztext_any x6 W (by omega))
              go_wp2_with fail
              refine (hCall.out _).mono ?_
              rintro e v4 ⟨⟨b6, rfl⟩, hbx⟩
              have hb4 := Lib.hid (hb.out.trans (hbx.mono hb.out.size))
              have hD4 := Lib.hid (hD.out.below hbx hD.out.lt)
              have hm4 := Lib.hid (hm.out.below hbx)
              clear c0 c1 c2 c3 c4 c5 c6 c7 c8 c9
              clear hb hD hm hbx hCall
              have hb := hb4
              have hD := hD4
              have hm := hm4
              clear hb4 hD4 hm4
              have c0 := hD.out.cell 0
              have c1 := hD.out.cell 1
              have c2 := hD.out.cell 2
              have c3 := hD.out.cell 3
              have c4 := hD.out.cell 4
              have c5 := hD.out.cell 5
              have c6 := hD.out.cell 6
              have c7 := hD.out.cell 7
              have c8 := hD.out.cell 8
              have c9 := hD.out.cell 9
              simp only [List.getElem?_toArray, List.getElem?_cons_zero, List.getElem?_cons_succ] at c0 c1 c2 c3 c4 c5 c6 c7 c8 c9
              cases b6
              all_goals
                go_wp2_with fail
                go_meet
                exact ⟨_, rfl, hb, hD, hm⟩
            | false =>
              have hCall := Lib.hid (fun W => zvalid_any x5 W (by omega))
              go_wp2_with fail
              refine (hCall.out _).mono ?_
              rintro e v5 ⟨⟨b5, rfl⟩, hbx⟩
              have hb5 := Lib.hid (hb.out.trans (hbx.mono hb.out.size))
              have hD5 := Lib.hid (hD.out.below hbx hD.out.lt)
              have hm5 := Lib.hid (hm.out.below hbx)
              clear c0 c1 c2 c3 c4 c5 c6 c7 c8 c9
              clear hb hD hm hbx hCall
              have hb := hb5
              have hD := hD5
              have hm := hm5
              clear hb5 hD5 hm5
              have c0 := hD.out.cell 0
              have c1 := hD.out.cell 1
              have c2 := hD.out.cell 2
              have c3 := hD.out.cell 3
              have c4 := hD.out.cell 4
              have c5 := hD.out.cell 5
              have c6 := hD.out.cell 6
              have c7 := hD.out.cell 7
              have c8 := hD.out.cell 8
              have c9 := hD.out.cell 9
              simp only [List.getElem?_toArray, List.getElem?_cons_zero, List.getElem?_cons_succ] at c0 c1 c2 c3 c4 c5 c6 c7 c8 c9
              cases b5 with
              | false =>
                go_wp2_with fail
                go_meet
                exact ⟨_, rfl, hb, hD, hm⟩
              | true =>
                have hCall := Lib.hid (fun W => ztext_any x6 W (by omega))
                go_wp2_with fail
                refine (hCall.out _).mono ?_
                rintro e v6 ⟨⟨b6, rfl⟩, hbx⟩
                have hb6 := Lib.hid (hb.out.trans (hbx.mono hb.out.size))
                have hD6 := Lib.hid (hD.out.below hbx hD.out.lt)
                have hm6 := Lib.hid (hm.out.below hbx)
                clear c0 c1 c2 c3 c4 c5 c6 c7 c8 c9
                clear hb hD hm hbx hCall
                have hb := hb6
                have hD := hD6
                have hm := hm6
                clear hb6 hD6 hm6
                have c0 := hD.out.cell 0
                have c1 := hD.out.cell 1
                have c2 := hD.out.cell 2
                have c3 := hD.out.cell 3
                have c4 := hD.out.cell 4
                have c5 := hD.out.cell 5
                have c6 := hD.out.cell 6
                have c7 := hD.out.cell 7
                have c8 := hD.out.cell 8
                have c9 := hD.out.cell 9
                simp only [List.getElem?_toArray, List.getElem?_cons_zero, List.getElem?_cons_succ] at c0 c1 c2 c3 c4 c5 c6 c7 c8 c9
                cases b6
                all_goals
                  go_wp2_with fail
                  go_meet
                  exact ⟨_, rfl, hb, hD, hm⟩
    case rest =>
      clear hb hD hm
      clear c0 c1 c2 c3 c4 c5 c6 c7 c8 c9
      obtain ⟨b, rfl, hb, hD, hm⟩ := hcut
      go_upto_if 63 with fail
      cases b with
      | true =>
        go_wp2_with fail
        go_ret
        exact SaysI.mk' hb.out
      | false =>
        have c0 := hD.out.cell 0
        have c1 := hD.out.cell 1
        have c2 := hD.out.cell 2
        have c3 := hD.out.cell 3
        have c4 := hD.out.cell 4
        have c5 := hD.out.cell 5
        have c6 := hD.out.cell 6
        have c7 := hD.out.cell 7
        have c8 := hD.out.cell 8
        have c9 := hD.out.cell 9
        simp only [List.getElem?_toArray, List.getElem?_cons_zero, List.getElem?_cons_succ] at c0 c1 c2 c3 c4 c5 c6 c7 c8 c9
        by_cases h1 : x7 < 1
        · skip
          go_wp2_with fail
          go_ret
          exact SaysI.mk' hb.out
        by_cases h2 : 4 < x7
        · skip
          go_wp2_with fail
          go_ret
          exact SaysI.mk' hb.out
        go_upto_region 7 with fail
        clear h1 h2
        go_cut [98] (fun sX wx => ∃ b : Bool, sX = .bool b ∧ Hid (Below w.heap.size w wx) ∧ Hid (Blk wx w.heap.size 40 #[.int .i64 x0, .int .i64 x1, .string x2, .string x3, .string x4, .string x5, .string x6, .int .i64 x7, .int .i64 x8, .slice xa xn xc]) ∧ Hid (MaxIs m wx))
        case first =>
          by_cases h4 : x7 = 4
          · have e4 : (x7 == 4) = true := by rw [beq_iff_eq]; exact h4
            have n4 : (x7 != 4) = false := by rw [bne, e4]; rfl
            clear h4
            have hCall := Lib.hid (fun W => ziface_any x2 W (by omega))
            go_wp2_with fail
            refine (hCall.out _).mono ?_
            rintro e v7 ⟨⟨b1, rfl⟩, hbx⟩
            have hb7 := Lib.hid (hb.out.trans (hbx.mono hb.out.size))
            have hD7 := Lib.hid (hD.out.below hbx hD.out.lt)
            have hm7 := Lib.hid (hm.out.below hbx)
            clear c0 c1 c2 c3 c4 c5 c6 c7 c8 c9
            clear hb hD hm hbx hCall
            have hb := hb7
            have hD := hD7
            have hm := hm7
            clear hb7 hD7 hm7
            have c0 := hD.out.cell 0
            have c1 := hD.out.cell 1
            have c2 := hD.out.cell 2
            have c3 := hD.out.cell 3
            have c4 := hD.out.cell 4
            have c5 := hD.out.cell 5
            have c6 := hD.out.cell 6
            have c7 := hD.out.cell 7
            have c8 := hD.out.cell 8
            have c9 := hD.out.cell 9
            simp only [List.getElem?_toArray, List.getElem?_cons_zero, List.getElem?_cons_succ] at c0 c1 c2 c3 c4 c5 c6 c7 c8 c9
            cases b1 with
            | false =>
              go_wp2_with fail
              go_meet
              exact ⟨_, rfl, hb, hD, hm⟩
            | true =>
              have hCall := Lib.hid (fun W => ziface_any x3 W (by omega))
              go_wp2_with fail
              refine (hCall.out _).mono ?_
              rintro e v8 ⟨⟨b2, rfl⟩, hbx⟩
              have hb8 := Lib.hid (hb.out.trans (hbx.mono hb.out.size))
              have hD8 := Lib.hid (hD.out.below hbx hD.out.lt)
              have hm8 := Lib.hid (hm.out.below hbx)
              clear c0 c1 c2 c3 c4 c5 c6 c7 c8 c9
              clear hb hD hm hbx hCall
              have hb := hb8
              have hD := hD8
              have hm := hm8
              clear hb8 hD8 hm8
              have c0 := hD.out.cell 0
              have c1 := hD.out.cell 1
              have c2 := hD.out.cell 2
              have c3 := hD.out.cell 3
              have c4 := hD.out.cell 4
              have c5 := hD.out.cell 5
              have c6 := hD.out.cell 6
              have c7 := hD.out.cell 7
              have c8 := hD.out.cell 8
              have c9 := hD.out.cell 9
              simp only [List.getElem?_toArray, List.getElem?_cons_zero, List.getElem?_cons_succ] at c0 c1 c2 c3 c4 c5 c6 c7 c8 c9
              cases b2
              all_goals
                go_wp2_with fail
                go_meet
                exact ⟨_, rfl, hb, hD, hm⟩
          · have e4 : (x7 == 4) = false := beq_eq_false_iff_ne.2 h4
            have n4 : (x7 != 4) = true := by rw [bne, e4]; rfl
            obtain ⟨t, ht⟩ : ∃ t, (x2.toList == x3.toList) = t := ⟨_, rfl⟩
            cases t
            all_goals
              go_wp2_with fail
              go_meet
              exact ⟨_, rfl, hb, hD, hm⟩
        case rest =>
          clear hb hD hm
          clear c0 c1 c2 c3 c4 c5 c6 c7 c8 c9
          obtain ⟨b, rfl, hb, hD, hm⟩ := hcut
          go_upto_if 98 with fail
          cases b with
          | true =>
            go_wp2_with fail
            go_ret
            exact SaysI.mk' hb.out
          | false =>
            have c0 := hD.out.cell 0
            have c1 := hD.out.cell 1
            have c2 := hD.out.cell 2
            have c3 := hD.out.cell 3
            have c4 := hD.out.cell 4
            have c5 := hD.out.cell 5
            have c6 := hD.out.cell 6
            have c7 := hD.out.cell 7
            have c8 := hD.out.cell 8
            have c9 := hD.out.cell 9
            simp only [List.getElem?_toArray, List.getElem?_cons_zero, List.getElem?_cons_succ] at c0 c1 c2 c3 c4 c5 c6 c7 c8 c9
            have hNode := Lib.hid (znode_any ⟨x0, x1, x2, x3, x4, x5, x6, x7, x8, xa, xn, xc, xt⟩ m _ s3 hm.out)
            unfold devV at hNode
            dsimp only at hNode
            go_wp2_with fail
            refine hNode.out.mono ?_
            rintro e vN ⟨⟨node, has, rfl, snode⟩, hbx⟩
            have hbN := Lib.hid (hb.out.trans (hbx.mono hb.out.size))
            have hDN := Lib.hid (hD.out.below hbx hD.out.lt)
            have hmN := Lib.hid (hm.out.below hbx)
            clear c0 c1 c2 c3 c4 c5 c6 c7 c8 c9
            clear hb hD hm hbx hNode
            have hb := hbN
            have hD := hDN
            have hm := hmN
            clear hbN hDN hmN
            have c0 := hD.out.cell 0
            have c1 := hD.out.cell 1
            have c2 := hD.out.cell 2
            have c3 := hD.out.cell 3
            have c4 := hD.out.cell 4
            have c5 := hD.out.cell 5
            have c6 := hD.out.cell 6
            have c7 := hD.out.cell 7
            have c8 := hD.out.cell 8
            have c9 := hD.out.cell 9
            simp only [List.getElem?_toArray, List.getElem?_cons_zero, List.getElem?_cons_succ] at c0 c1 c2 c3 c4 c5 c6 c7 c8 c9
            go_upto_region 10 with fail
            go_cut [123] (fun sX wx => ∃ b : Bool, sX = .bool b ∧ Hid (Below w.heap.size w wx) ∧ Hid (Blk wx w.heap.size 40 #[.int .i64 x0, .int .i64 x1, .string x2, .string x3, .string x4, .string x5, .string x6, .int .i64 x7, .int .i64 x8, .slice xa xn xc]) ∧ Hid (MaxIs m wx))
            case first =>
              cases has with
              | true =>
                by_cases h1 : x8 < 1
                · skip
                  go_wp2_with fail
                  go_meet
                  exact ⟨_, rfl, hb, hD, hm⟩
                · by_cases h2 : 1073741824 < x8
                  · skip
                    go_wp2_with fail
                    go_meet
                    exact ⟨_, rfl, hb, hD, hm⟩
                  · skip
                    go_wp2_with fail
                    go_meet
                    exact ⟨_, rfl, hb, hD, hm⟩
              | false =>
                obtain ⟨t, ht⟩ : ∃ t, (x8 != 0) = t := ⟨_, rfl⟩
                cases t
                all_goals
                  go_wp2_with fail
                  go_meet
                  exact ⟨_, rfl, hb, hD, hm⟩
            case rest =>
              clear hb hD hm
              clear c0 c1 c2 c3 c4 c5 c6 c7 c8 c9
              obtain ⟨b, rfl, hb, hD, hm⟩ := hcut
              go_upto_if 123 with fail
              cases b with
              | true =>
                go_wp2_with fail
                go_ret
                exact SaysI.mk' hb.out
              | false =>
                have c0 := hD.out.cell 0
                have c1 := hD.out.cell 1
                have c2 := hD.out.cell 2
                have c3 := hD.out.cell 3
                have c4 := hD.out.cell 4
                have c5 := hD.out.cell 5
                have c6 := hD.out.cell 6
                have c7 := hD.out.cell 7
                have c8 := hD.out.cell 8
                have c9 := hD.out.cell 9
                simp only [List.getElem?_toArray, List.getElem?_cons_zero, List.getElem?_cons_succ] at c0 c1 c2 c3 c4 c5 c6 c7 c8 c9
                by_cases h24 : 24 < xn
                · have i24 : (24 : Int) < (xn : Int) := by omega
                  go_wp2_with fail
                  go_ret
                  exact SaysI.mk' hb.out
                · have i24 : ¬ (24 : Int) < (xn : Int) := by omega
                  go_wp2_with fail
                  go_loopw [5] (fun s5 wx => ∃ k : Nat, s5 = .int .i64 k ∧ k ≤ xn ∧ Hid (Below w.heap.size w wx) ∧ Hid (Blk wx w.heap.size 40 #[.int .i64 x0, .int .i64 x1, .string x2, .string x3, .string x4, .string x5, .string x6, .int .i64 x7, .int .i64 x8, .slice xa xn xc]) ∧ Hid (MaxIs m wx)) (fun s5 _ => xn - (intOf s5).toNat)
                  case atStart => exact ⟨0, rfl, by omega, hb, hD, hm⟩
                  case round =>
                    clear c0 c1 c2 c3 c4 c5 c6 c7 c8 c9
                    clear hb hD hm
                    obtain ⟨k, rfl, hk, hb, hD, hm⟩ := hrel
                    have c0 := hD.out.cell 0
                    have c1 := hD.out.cell 1
                    have c2 := hD.out.cell 2
                    have c3 := hD.out.cell 3
                    have c4 := hD.out.cell 4
                    have c5 := hD.out.cell 5
                    have c6 := hD.out.cell 6
                    have c7 := hD.out.cell 7
                    have c8 := hD.out.cell 8
                    have c9 := hD.out.cell 9
                    simp only [List.getElem?_toArray, List.getElem?_cons_zero, List.getElem?_cons_succ] at c0 c1 c2 c3 c4 c5 c6 c7 c8 c9
                    have ik0 : (0 : Int) ≤ (k : Int) := by omega
                    by_cases hkn : k < xn
                    · have ik : (k : Int) < (xn : Int) := by omega
                      have hat : Hid (∃ a g o, a ∈ xt ∧ xa = some ⟨g, o, none⟩ ∧ ∀ Y, Below w.heap.size w Y → Y.cell? ⟨g, o + k * 2, none⟩ = some (.string a.1) ∧ Y.cell? ⟨g, o + k * 2 + 1, none⟩ = some (.string a.2)) := by
                        obtain ⟨a, ha⟩ : ∃ a, xt[k]? = some a := ⟨_, List.getElem?_eq_getElem (by have := hxn'.out; omega)⟩
                        have ha2 : (xt.map attC)[k]? = some (attC a) := by rw [List.getElem?_map, ha]; rfl
                        rcases hd'.out.2 with ⟨h1, _⟩ | ⟨g, o, cap, h1, hg, hc⟩
                        · cases h1; omega
                        · cases h1
                          exact ⟨a, g, o, List.mem_of_getElem? ha, rfl, fun Y hY => ⟨(World.cell?_of_block (hY.block g hg)).trans (hc k _ ha2 0 _ rfl), (World.cell?_of_block (hY.block g hg)).trans (hc k _ ha2 1 _ rfl)⟩⟩
                      obtain ⟨⟨an, av⟩, g, o, ham, rfl, hc⟩ := hat.out
                      have hsm := sa'.out _ ham
                      dsimp only at hc hsm
                      have hc' := Lib.hid hc
                      clear hat ham hc
                      obtain ⟨a1, a2⟩ := hc'.out _ hb.out
                      obtain ⟨te, hte⟩ : ∃ t, (av.toList == []) = t := ⟨_, rfl⟩
                      have hCall := Lib.hid (fun W => zvalid_any an W (by omega))
                      go_wp2_with fail
                      refine (hCall.out _).mono ?_
                      rintro e v9 ⟨⟨b1, rfl⟩, hbx⟩
                      have hb9 := Lib.hid (hb.out.trans (hbx.mono hb.out.size))
                      have hD9 := Lib.hid (hD.out.below hbx hD.out.lt)
                      have hm9 := Lib.hid (hm.out.below hbx)
                      clear c0 c1 c2 c3 c4 c5 c6 c7 c8 c9
                      clear hb hD hm hbx hCall
                      have hb := hb9
                      have hD := hD9
                      have hm := hm9
                      clear hb9 hD9 hm9
                      have c0 := hD.out.cell 0
                      have c1 := hD.out.cell 1
                      have c2 := hD.out.cell 2
                      have c3 := hD.out.cell 3
                      have c4 := hD.out.cell 4
                      have c5 := hD.out.cell 5
                      have c6 := hD.out.cell 6
                      have c7 := hD.out.cell 7
                      have c8 := hD.out.cell 8
                      have c9 := hD.out.cell 9
                      simp only [List.getElem?_toArray, List.getElem?_cons_zero, List.getElem?_cons_succ] at c0 c1 c2 c3 c4 c5 c6 c7 c8 c9
                      clear a1 a2
                      obtain ⟨a1, a2⟩ := hc'.out _ hb.out
                      cases b1 with
                      | false =>
                        go_wp2_with fail
                        go_ret
                        exact SaysI.mk' hb.out
                      | true =>
                        have hCall := Lib.hid (fun W => ztext_any av W (by omega))
                        go_wp2_with fail
                        refine (hCall.out _).mono ?_
                        rintro e v10 ⟨⟨b2, rfl⟩, hbx⟩
                        have hb10 := Lib.hid (hb.out.trans (hbx.mono hb.out.size))
                        have hD10 := Lib.hid (hD.out.below hbx hD.out.lt)
                        have hm10 := Lib.hid (hm.out.below hbx)
                        clear c0 c1 c2 c3 c4 c5 c6 c7 c8 c9
                        clear hb hD hm hbx hCall
                        have hb := hb10
                        have hD := hD10
                        have hm := hm10
                        clear hb10 hD10 hm10
                        have c0 := hD.out.cell 0
                        have c1 := hD.out.cell 1
                        have c2 := hD.out.cell 2
                        have c3 := hD.out.cell 3
                        have c4 := hD.out.cell 4
                        have c5 := hD.out.cell 5
                        have c6 := hD.out.cell 6
                        have c7 := hD.out.cell 7
                        have c8 := hD.out.cell 8
                        have c9 := hD.out.cell 9
                        simp only [List.getElem?_toArray, List.getElem?_cons_zero, List.getElem?_cons_succ] at c0 c1 c2 c3 c4 c5 c6 c7 c8 c9
                        clear a1 a2
                        obtain ⟨a1, a2⟩ := hc'.out _ hb.out
                        cases b2 with
                        | false =>
                          go_wp2_with fail
                          go_ret
                          exact SaysI.mk' hb.out
                        | true =>
                          cases te with
                          | true =>
                            go_wp2_with fail
                            go_ret
                            exact SaysI.mk' hb.out
                          | false =>
                            go_wp2_with fail
                            go_roundw
                            case rel => exact ⟨k + 1, by go_num, by omega, hb, hD, hm⟩
                            case measure => simp [intOf]; omega
                    · obtain rfl : k = xn := by omega
                      have hSort := Lib.hid (zsorted_any xt (.slice xa k xc) _ (hd'.out.below hb.out) (by omega))
                      go_wp2_with fail
                      refine hSort.out.mono ?_
                      rintro e vS ⟨⟨bs1, rfl⟩, hbx⟩
                      have hbS := Lib.hid (hb.out.trans (hbx.mono hb.out.size))
                      have hmS := Lib.hid (hm.out.below hbx)
                      clear c0 c1 c2 c3 c4 c5 c6 c7 c8 c9
                      clear hb hD hm hbx hSort
                      cases bs1 with
                      | false =>
                        go_wp2_with fail
                        go_ret
                        exact SaysI.mk' hbS.out
                      | true =>
                        cases has with
                        | false =>
                          go_wp2_with fail
                          go_ret
                          exact SaysI.mk' hbS.out
                        | true =>
                          have hL := Lib.hid (zlink_any node m _ (by omega) hmS.out)
                          go_wp2_with fail
                          refine hL.out.mono ?_
                          rintro e vL ⟨⟨b, rfl⟩, hbx⟩
                          have hbL := Lib.hid (hbS.out.trans (hbx.mono hbS.out.size)); clear hbx
                          cases b
                          all_goals
                            go_wp2_with fail
                            go_ret
                            exact SaysI.mk' hbL.out

end Go.Proofs.YtinjeijjfkkhbaaGreatDoor
