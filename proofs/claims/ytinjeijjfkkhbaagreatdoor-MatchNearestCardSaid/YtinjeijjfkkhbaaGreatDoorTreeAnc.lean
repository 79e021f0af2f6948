/-
  THE WALK of tree.Ancestors.
-/
import Derived.Test.YtinjeijjfkkhbaaGreatDoorTreeAncR
import Derived.Maps.AppendAt
import Derived.RangeFuncBox
import Derived.Deep.RegionHeld3
import Derived.Deep.DeepMust
namespace Go.Proofs.YtinjeijjfkkhbaaGreatDoor
open Go Go.RowKit Go.Maps Go.Shelf
attribute [local go_sem] Oper.semAt_some
attribute [local go_sem high] app_sem
attribute [local go_sem] app_run

theorem RowAt.frame {w w' : World} {v : Value} {sz : Nat} {l : List (List Value)} (h : RowAt w v sz l) (hs : w.heap.size ≤ w'.heap.size) (hb : ∀ g, g < w.heap.size → w'.heap[g]? = w.heap[g]?) : RowAt w' v sz l := by
  refine ⟨h.1, ?_⟩
  rcases h.2 with h | ⟨g, o, cap, rfl, hg, hc⟩
  · exact .inl h
  · exact .inr ⟨g, o, cap, rfl, by omega, fun k xs hx j u hu => (World.cell?_of_block (hb g hg)).trans (hc k xs hx j u hu)⟩
theorem DevsAt.frame {w w' : World} {v : Value} {l : List Dev} (h : DevsAt w v l) (hs : w.heap.size ≤ w'.heap.size) (hb : ∀ g, g < w.heap.size → w'.heap[g]? = w.heap[g]?) : DevsAt w' v l := ⟨h.1.frame hs hb, fun d hd => (h.2 d hd).frame hs hb⟩
theorem chainD_len (l : List Dev) : ∀ (f : Nat) (i : Int), (chainD l f i).length ≤ f
  | 0, i => Nat.le_refl _
  | f + 1, i => by
    rw [chainD]
    split
    · rename_i d _
      have := chainD_len l f d.par
      rw [List.length_cons]
      omega
    · exact Nat.zero_le _
/-- The ancestors of a device. -/
def ancS (l : List Dev) (i : Int) : List Dev := (chainD l l.length i).filter fun d => decide (d.idx ≠ i)

set_option maxRecDepth 100000 in
set_option maxHeartbeats 2000000 in
theorem anc_any (l : List Dev) (p : Option Addr) (N c : Nat) (i0 : Int) (w : World) (hl : DevsAt w (.slice p N c) l) (hN : Hid (l.length = N)) (hNb : N ≤ 1000) (hwf : ∀ d ∈ l, Wf d.idx ∧ Wf d.par) (hsz : ∀ d ∈ l, d.orig.size ≤ 1000000) (hok : ∀ d ∈ l, Neat d.att d.aa d.an d.ac) (hwi : Wf i0) :
    Calls Tryz.prog 12 #[.agg #[.slice p N c], .int .i64 i0] w fun e w' => (∃ V l', e = .returned V ∧ DevsAt w' V l' ∧ Sames (ancS l i0) l' ∧ ∀ d ∈ l', Neat d.att d.aa d.an d.ac) ∧ Below w.heap.size w w' := by
  refine callsIn_wide (n := 9).1 ?_
  have hLk : Hid (∀ W, Below w.heap.size w W → Calls Tryz.prog 28 #[.agg #[.slice p N c]] W fun e w' => (∃ b1 b2, e = .returned (viewV p N c b1 b2) ∧ Places w' b1 l N ∧ W.heap.size ≤ b1) ∧ Below W.heap.size W w') := fun W hb => by
    have := look_any l p N c W (hl.below hb) (by rw [hN.out]; exact hNb) hwf hsz
    rwa [hN.out] at this
  have hT : Hid (Blk (((w.alloc (.cells #[.slice p N c] 30)).alloc (.cells #[.int .i64 i0] 3)).alloc (.cells #[.slice none 0 0] 28)) w.heap.size 30 #[.slice p N c]) := ((Blk.new _ _ _).alloc _).alloc _
  have hIx : Hid (Blk (((w.alloc (.cells #[.slice p N c] 30)).alloc (.cells #[.int .i64 i0] 3)).alloc (.cells #[.slice none 0 0] 28)) (w.heap.size + 1) 3 #[.int .i64 i0]) := (Blk.new_ _ _ _ (by simp)).alloc _
  have hBl : Hid (Blk (((w.alloc (.cells #[.slice p N c] 30)).alloc (.cells #[.int .i64 i0] 3)).alloc (.cells #[.slice none 0 0] 28)) (w.heap.size + 2) 28 #[.slice none 0 0]) := Blk.new_ _ _ _ (by simp)
  have a1 : Below w.heap.size w (w.alloc (.cells #[.slice p N c] 30)) := (Below.refl _ _).alloc (Nat.le_refl _) _
  have hB : Hid (Below w.heap.size w (((w.alloc (.cells #[.slice p N c] 30)).alloc (.cells #[.int .i64 i0] 3)).alloc (.cells #[.slice none 0 0] 28))) := (a1.alloc a1.size _).alloc (a1.alloc a1.size _).size _
  clear a1
  refine callsIn_of_wp_marks Tryz.func12 rfl trivial ?_ rfl
  simp only [Tryz.ntmps12, List.size_toArray, List.length_cons, List.length_nil, Nat.reduceAdd, Nat.reduceSub, Array.replicate_succ, Array.replicate_zero, List.push_toArray, List.append_toArray, List.nil_append, List.cons_append]
  gi_wp2
  generalize ((w.alloc (.cells #[.slice p N c] 30)).alloc (.cells #[.int .i64 i0] 3)).alloc (.cells #[.slice none 0 0] 28) = w3 at *
  have hw3 : w.heap.size + 2 < w3.heap.size := hBl.out.lt
  have hVu := Lib.hid (fun b1 b2 W => vup_any p N c b1 b2 i0 W)
  have t0 := hT.out.cell 0
  have x0 := hIx.out.cell 0
  simp only [List.getElem?_toArray, List.getElem?_cons_zero] at t0 x0
  have hS0 : w3.cell? ⟨w.heap.size, 0, none⟩ = some (.slice p N c) ∧ w3.cell? ⟨w.heap.size + 1, 0, none⟩ = some (.int .i64 i0) := ⟨t0, x0⟩
  have hS1 : w3.drew.cell? ⟨w.heap.size, 0, none⟩ = some (.slice p N c) ∧ w3.drew.cell? ⟨w.heap.size + 1, 0, none⟩ = some (.int .i64 i0) := ⟨t0, x0⟩
  have hk1 : Hid (∀ y, Below w3.drew.heap.size w3.drew y → y.cell? ⟨w.heap.size, 0, none⟩ = some (.slice p N c) ∧ y.cell? ⟨w.heap.size + 1, 0, none⟩ = some (.int .i64 i0)) := fun y h =>
    ⟨((hT.out.drew.below h hT.out.drew.lt).cell 0).trans rfl, ((hIx.out.drew.below h hIx.out.drew.lt).cell 0).trans rfl⟩
  have hk2 : Hid (∀ y o1 o2, Below w3.drew.heap.size w3.drew y → Below w3.drew.heap.size w3.drew ((y.alloc o1).alloc o2)) := fun y o1 o2 h => (h.alloc h.size o1).alloc (h.alloc h.size o1).size o2
  refine wpIn_wide.2 ?_
  (first | (go_must (go_region_held3 (fun w' => w'.cell? ⟨w.heap.size, 0, none⟩ = some (.slice p N c) ∧ w'.cell? ⟨w.heap.size + 1, 0, none⟩ = some (.int .i64 i0))
    ((first | exact hS0 | exact hS1 | exact hk1.out _ hy1 | exact hk1.out _ (hk2.out _ _ _ hy1)))
    (first | (go_at_call 28; refine (hLk.out _ (by first | exact hB.out | exact Below.drew hB.out)).mono ?_; rintro e y1 ⟨⟨b1, b2, rfl, hP, hb1⟩, hy1⟩) | (go_at_call 29; refine (hVu.out _ _ _).mono ?_; rintro e y2 ⟨rfl, rfl⟩) | fail))) | fail)
  have hB4 : Hid (Below w.heap.size w w3.drew) := Below.drew hB.out
  have hsy := hy1.size
  have hsd : w3.drew.heap.size = w3.heap.size := rfl
  have hIy : Blk y1 (w.heap.size + 1) 3 #[.int .i64 i0] := hIx.out.drew.below hy1 hIx.out.drew.lt
  have hLy : Blk y1 (w.heap.size + 2) 28 #[.slice none 0 0] := hBl.out.drew.below hy1 hBl.out.drew.lt
  have hBy : Below w.heap.size w y1 := hB4.out.trans (hy1.mono hB4.out.size)
  have hP5 : Hid (Places ((y1.alloc (.cells #[.slice p N c, .map (some b1), .map (some b2)] 70)).alloc (.cells #[.int .i64 i0] 3)) b1 l N) := by
    have h1 := hP.heap (Below.heap_alloc y1 (.cells #[.slice p N c, .map (some b1), .map (some b2)] 70) _ hP.lt)
    exact h1.heap (Below.heap_alloc _ _ _ h1.lt)
  have hb1y := hP.lt
  have hb1g : w.heap.size + 2 < b1 := by omega
  have hV5 : Hid (Blk ((y1.alloc (.cells #[.slice p N c, .map (some b1), .map (some b2)] 70)).alloc (.cells #[.int .i64 i0] 3)) y1.heap.size 70 #[.slice p N c, .map (some b1), .map (some b2)]) := (Blk.new _ _ _).alloc _
  have hC5 : Hid (Blk ((y1.alloc (.cells #[.slice p N c, .map (some b1), .map (some b2)] 70)).alloc (.cells #[.int .i64 i0] 3)) (y1.heap.size + 1) 3 #[.int .i64 i0]) := Blk.new_ _ _ _ (by simp)
  have hI5 : Hid (Blk ((y1.alloc (.cells #[.slice p N c, .map (some b1), .map (some b2)] 70)).alloc (.cells #[.int .i64 i0] 3)) (w.heap.size + 1) 3 #[.int .i64 i0]) := (hIy.alloc _).alloc _
  have hL5 : Hid (Blk ((y1.alloc (.cells #[.slice p N c, .map (some b1), .map (some b2)] 70)).alloc (.cells #[.int .i64 i0] 3)) (w.heap.size + 2) 28 #[.slice none 0 0]) := (hLy.alloc _).alloc _
  have hB5 : Hid (Below w.heap.size w ((y1.alloc (.cells #[.slice p N c, .map (some b1), .map (some b2)] 70)).alloc (.cells #[.int .i64 i0] 3))) := (hBy.alloc hBy.size _).alloc (hBy.alloc hBy.size _).size _
  have hly : w.heap.size + 2 < y1.heap.size := hLy.lt
  clear hB4 hsy hsd hIy hLy hBy hP hb1 hS0 hS1 hk1 hk2 hT hIx hBl hB hVu hLk t0 x0 hy1
  generalize (y1.alloc (.cells #[.slice p N c, .map (some b1), .map (some b2)] 70)).alloc (.cells #[.int .i64 i0] 3) = w5 at *
  generalize y1.heap.size = bv at *
  gi_wp2
  have hbv : bv + 1 < w5.heap.size := hC5.out.lt
  have hlf : Hid (∀ W, (∀ j, j < w.heap.size → W.heap[j]? = w5.heap[j]?) → w.heap.size ≤ W.heap.size → DevsAt W (.slice p N c) l) := fun W h1 h2 => hl.frame h2 fun g hg => (h1 g hg).trans (hB5.out.block g hg)
  refine wpIn_rangeFunc_cell (α := Dev) (c := bv + 1) rfl (by omega) hbv (gf := 56) (lb := #[.pointer (some ⟨bv, 0, none⟩), .pointer (some ⟨bv + 1, 0, none⟩)]) rfl trivial (enters_of Tryz.func56 (by kernel_rfl) rfl)
    (X := upX w.heap.size bv b1 (bv + 1)) (fun j hj => by
      have := hB5.out.size
      rcases hj with h | h | h | h
      · omega
      · omega
      · rw [h]; exact hP5.out.lt
      · omega)
    (up_seq (9 - 1) (by omega) l p N c b1 b2 bv (bv + 1) w.heap.size i0 w5 hB5.out.size hlf.out hN (by omega) (fun d hd => (hwf d hd).2) hV5.out hC5.out hwi hP5.out (by omega) (by omega) (by omega))
    (fun _ => rfl) (AncI w.heap.size (bv + 2) (w.heap.size + 2) (w.heap.size + 1) w i0)
    (AncI.own (by omega) (by omega) (by omega) (by omega) (by omega) (by omega) (by omega) (Nat.le_refl _))
    ⟨⟨_, hL5.out, Copies.start _ _⟩, hI5.out, hB5.out⟩
    (fun d a' W => ∃ B6, bv + 1 < B6 ∧ Blk W B6 40 #[.int .i64 d.idx, .int .i64 d.par, .string d.name, .string d.orig, .string d.sub, .string d.drv, .string d.ali, .int .i64 d.kind, .int .i64 d.num, .slice d.aa d.an d.ac] ∧
      a' = { tmps := #[.agg #[.slice p N c], .int .i64 i0, .pointer (some ⟨w.heap.size, 0, none⟩), .pointer (some ⟨w.heap.size + 1, 0, none⟩), .slice none 0 0, .pointer (some ⟨w.heap.size + 1 + 1, 0, none⟩), .pointer (some ⟨B6, 0, none⟩), .agg #[.slice p N c], viewV p N c b1 b2, .int .i64 i0, .func (.func 56) #[] #[.pointer (some ⟨bv, 0, none⟩), .pointer (some ⟨bv + 1, 0, none⟩)], devV d, undef, undef, undef, undef, undef, undef, undef, undef, undef, undef], defers := [] })
    (fun d a' => by
      rintro _ W W' row ⟨B6, h6, hb6, rfl⟩ hg hr
      refine ⟨B6, h6, (hg.block B6 hb6.lt (fun e => ?_)).trans hb6, rfl⟩
      rcases hr B6 e.symm with h | ⟨_, o, ho, hc⟩
      · omega
      · rw [show W.heap[B6]? = _ from hb6] at ho
        cases ho
        cases hc)
    ?assign ?body ?done
  case assign =>
    intro lp d W K hlt hK
    unfold devV at hK ⊢
    gi_wp2
    exact hK _ _ (World.grownBy_alloc W _ none) ⟨W.heap.size, by omega, Blk.new _ _ _, rfl⟩
  case body =>
    rintro lp pre d a' W0 W hG ⟨⟨V0, hV0, hC0⟩, _, _⟩ ⟨⟨V, hV, hC⟩, hx, hb⟩ hsz hcl hlt ⟨B6, hB6, hd6, rfl⟩ hlen
    obtain rfl : V0 = V := by
      have := hcl _ _ _ _ hV0
      rw [show W.heap[w.heap.size + 2]? = _ from hV, show W0.heap[w.heap.size + 2]? = _ from hV0] at this
      injection this with this
      injection this with this
      injection this with this
      injection this with this
      exact this.symm
    have hrow : Hid (∀ g, V0.ownBlock = some g → bv + 2 ≤ g ∧ g < W0.heap.size) := fun g hg => by
      obtain ⟨l', h1, _⟩ := hC0
      exact h1.lt g hg
    have hdok : DevOk W d := ⟨(hl.frame hb.size fun g hg => hb.block g hg).2 d hG, hok d hG⟩
    clear hC0 hV0 hcl
    obtain ⟨x0, x1, x2, x3, x4, x5, x6, x7, x8, xa, xn, xc, xt⟩ := d
    simp only at hd6
    have q0 := hd6.cell 0
    have q1 := hd6.cell 1
    have q2 := hd6.cell 2
    have q3 := hd6.cell 3
    have q4 := hd6.cell 4
    have q5 := hd6.cell 5
    have q6 := hd6.cell 6
    have q7 := hd6.cell 7
    have q8 := hd6.cell 8
    have q9 := hd6.cell 9
    have cx := hx.cell 0
    have cV : W.cell? ⟨w.heap.size + 1 + 1, 0, none⟩ = some V0 := (hV.cell 0).trans rfl
    have fV : W.frozen? ⟨w.heap.size + 1 + 1, 0, none⟩ = false := hV.frozen 0
    simp only [List.getElem?_toArray, List.getElem?_cons_zero, List.getElem?_cons_succ] at q0 q1 q2 q3 q4 q5 q6 q7 q8 q9 cx
    by_cases hid : x0 = i0
    · have hfl : Hid ((pre ++ [(⟨x0, x1, x2, x3, x4, x5, x6, x7, x8, xa, xn, xc, xt⟩ : Dev)]).filter (fun d => decide (d.idx ≠ i0)) = pre.filter (fun d => decide (d.idx ≠ i0))) := by
        show List.filter _ _ = _
        rw [List.filter_append]
        simp [hid]
      subst hid
      have hVC := Lib.hid (And.intro hV hC)
      have hx' := Lib.hid hx
      have hb' := Lib.hid hb
      clear hV hC hx hb hdok q1 q2 q3 q4 q5 q6 q7 q8 q9 cV fV hd6
      gi_wp2
      exact ⟨KeepsFrom.refl _ _, fun j hj _ => rfl, ⟨V0, hVC.out.1, by rw [hfl.out]; exact hVC.out.2⟩, hx'.out, hb'.out⟩
    · have hfl : Hid ((pre ++ [(⟨x0, x1, x2, x3, x4, x5, x6, x7, x8, xa, xn, xc, xt⟩ : Dev)]).filter (fun d => decide (d.idx ≠ i0)) = pre.filter (fun d => decide (d.idx ≠ i0)) ++ [⟨x0, x1, x2, x3, x4, x5, x6, x7, x8, xa, xn, xc, xt⟩]) := by
        show List.filter _ _ = _
        rw [List.filter_append]
        simp [hid]
      have e1 : (x0 == i0) = false := beq_eq_false_iff_ne.2 hid
      have hdk := Lib.hid hdok
      have hVC := Lib.hid (And.intro hV hC)
      have hx' := Lib.hid hx
      have hb' := Lib.hid hb
      have hfl' := hfl.out
      have hcp := Lib.hid (copied_any _ W.drew (hdok.same (w' := W.drew) (Nat.le_refl _) (fun _ _ => rfl)))
      unfold devV at hcp
      simp only at hcp
      have hR := Lib.hid (fun y1 d' (h1 : DevOk y1 d') h2 h3 hy => anc_round (C := w5.heap.size) (b1 := b1) (y1 := y1) (d := ⟨x0, x1, x2, x3, x4, x5, x6, x7, x8, xa, xn, xc, xt⟩) (d' := d') (by omega) (by have := hP5.out.lt; omega) hV hC hx hb hrow.out (by omega) hsz (by omega) (by omega) h1 h2 h3 hy hid)
      have hlW := hlt
      have hmix : Tryz.prog.follows .mixedOrders = true := by kernel_rfl
      clear hdok hV hC hx hb
      gi_wp2
      gi_region_with_o (first | (refine ⟨trivial, ?_⟩; gi_at_call 30; refine (CallsIn.inRound lp (callsIn_wide.2 hcp.out)).mono ?_; rintro e y1 ⟨⟨d', rfl, hd1, hd2, hd3⟩, hy1⟩; obtain ⟨V', w', hrun, ⟨g', n', cap', rfl⟩, c1, c2, c3, c4, hfin⟩ := hR.out y1 d' hd1 hd2 hd3 ⟨hy1.os, hy1.tape, hy1.output, hy1.size, hy1.block⟩; unfold devC Dev.atv at hrun c3; unfold devV) | fail)
      all_goals exact hfin.out
  case done =>
    rintro D xs W hD rfl ⟨⟨V, hV, hC⟩, hx, hb⟩ hK
    have cV : W.cell? ⟨w.heap.size + 1 + 1, 0, none⟩ = some V := (hV.cell 0).trans rfl
    have hg := grownBy_putObj' W D (.deferred none)
    have hC2 : Copies (bv + 2) V ((chainD l N i0).filter fun d => decide (d.idx ≠ i0)) (W.putObj D (.deferred none)) := hC.grown (c := bv + 1) (C := w5.heap.size) hg (fun r e => by cases e; exact .inr ⟨hD, _, hK, rfl⟩) (by omega)
    have hb2 : Below w.heap.size w (W.putObj D (.deferred none)) := hb.grown hg (Nat.le_trans (Nat.le_refl _) hb.size) (fun k e => by cases e; have := hB5.out.size; omega)
    have hfin : Hid ((∃ l', DevsAt (W.putObj D (.deferred none)) V l' ∧ Sames (ancS l i0) l' ∧ ∀ d ∈ l', Neat d.att d.aa d.an d.ac) ∧ Below w.heap.size w (W.putObj D (.deferred none))) := by
      refine ⟨?_, hb2⟩
      have hlen : ((chainD l N i0).filter fun d => decide (d.idx ≠ i0)).length ≤ 9223372036854775807 := by
        have h1 := List.length_filter_le (fun d : Dev => decide (d.idx ≠ i0)) (chainD l N i0)
        have h2 := chainD_len l N i0
        omega
      obtain ⟨l', h1, h2, h3⟩ := hC2.at hlen
      refine ⟨l', h1, ?_, h3⟩
      unfold ancS
      rw [hN.out]
      exact h2
    clear hg hC2 hb2 hC hV hx hb
    gi_wp2
    refine ⟨by simp, .inl ⟨_, _, rfl, run_takeDeferred hK, ?_⟩⟩
    obtain ⟨⟨l', g1, g2, g3⟩, g4⟩ := hfin.out
    exact ⟨_, results_tmp rfl _ _ _, ⟨⟨V, l', rfl, g1, g2, g3⟩, g4⟩⟩

end Go.Proofs.YtinjeijjfkkhbaaGreatDoor
