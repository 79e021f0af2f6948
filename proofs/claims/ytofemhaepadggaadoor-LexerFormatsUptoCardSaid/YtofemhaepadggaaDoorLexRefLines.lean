/-
  THE WALK of coldplugref08.Lines.
-/
import Derived.Test.YtofemhaepadggaaDoorLexLinesFn
namespace Go.Proofs.YtofemhaepadggaaDoor
open Go.RowKit

theorem hass_any (x : ByteArray) (w : World) (hs : x.size ≤ 1000000000) : Calls Tryd.prog 22 #[.string x, .string ⟨#[92]⟩] w fun e w' => e = .returned (.bool (lastB x)) ∧ w' = w := by
  refine (Tryd.strings_HasSuffix x ⟨#[92]⟩ w (by omega)).mono ?_
  rintro e w' ⟨rfl, rfl⟩
  refine ⟨?_, rfl⟩
  have h1 : Lib.hasSuffix x.data.toList [92] = lastB x := suffix_last _
  show Ending.returned (Value.bool (Lib.hasSuffix x.data.toList [92])) = _
  rw [h1]
theorem lastB_pos {x : ByteArray} (h : lastB x = true) : 0 < x.size := by
  unfold lastB at h
  have h1 := of_decide_eq_true h
  rcases Nat.eq_zero_or_pos x.size with h0 | h0
  · have : x.data.toList = [] := List.eq_nil_of_length_eq_zero (by simpa using h0)
    rw [this] at h1
    cases h1
  · exact h0
theorem cut_app {t x : ByteArray} (h : lastB x = true) : (t ++ x).extract 0 ((t ++ x).size - 1) = t ++ cutB x := by
  have hp := lastB_pos h
  unfold cutB
  rw [h, if_pos rfl]
  apply bs_inj
  rw [bs_to]
  have e : ∀ a b : ByteArray, bs (a ++ b) = bs a ++ bs b := fun a b => by simp [bs]
  rw [e, e, bs_to, List.take_append, length_bs, ByteArray.size_append, List.take_of_length_le (by rw [length_bs]; omega), show t.size + x.size - 1 - t.size = x.size - 1 from by omega]

/-- Reads, then a tail that is forced. -/
theorem still_tail {P : Program} {id : Nat} {Q : Exit → Act → World → Prop} {a : Act} {w : World} {l : List Oper} (n : Nat) (hm : P.follows .mixedOrders = true) (hB : Region.lexTailB .any l.toArray n = true)
    (h : wpStill P l.toArray w.drew (fun a' => wpList P l.toArray Q (l.drop n) a' w.drew) (l.take n) a) : (Code.region id l.toArray true).wp P Q a w := wp_region_still_tail n hm hB h

set_option maxRecDepth 100000 in
set_option maxHeartbeats 4000000 in
theorem rlines_any (s : ByteArray) (m : Int) (w : World) (hs : s.size ≤ 4000) (hm : w.cell? ⟨0, 0, none⟩ = some (.int .i64 m)) :
    Calls Tryd.prog 21 #[.string s] w fun e w' => (∃ v, e = .returned v ∧ Lns w' (w.heap.size + 1) v (linesS s)) ∧ Below w.heap.size w w' := by
  obtain ⟨i0, hi0, hz0, hz1, hz2⟩ := info_parts info_line
  have h0lt : 0 < w.heap.size := World.block_lt_of_cell? w _ hm
  have hS' := Lib.hid (split10_any s m w (by omega) hm)
  obtain ⟨hl1, hl2⟩ := pieces_len s
  have hph : phys s = if ((pieces s).getLast?.getD ⟨#[]⟩).size = 0 then (pieces s).dropLast else pieces s := rfl
  obtain ⟨lx, hlx⟩ : ∃ x, (pieces s)[(pieces s).length - 1]? = some x := ⟨_, List.getElem?_eq_getElem (by omega)⟩
  have hlast : ((pieces s).getLast?.getD ⟨#[]⟩) = lx := by rw [List.getLast?_eq_getElem?, hlx]; rfl
  rw [hlast] at hph
  have hdl : (pieces s).dropLast.length = (pieces s).length - 1 := List.length_dropLast
  have hsz : ∀ (k : Nat) (x : ByteArray), (pieces s)[k]? = some x → x.size ≤ 4000 := fun k x hx => Nat.le_trans (piece_le s x (List.mem_of_getElem? hx)) hs
  clear hlast hm
  unfold linesS
  generalize phys s = P at *
  generalize pieces s = Q at *
  obtain ⟨q, hq⟩ : ∃ q, Q.length = q + 1 := ⟨Q.length - 1, by omega⟩
  rw [hq] at hS' hl2 hlx hdl
  simp only [Nat.add_sub_cancel] at hlx hdl
  have c0 : (w.alloc (.cells (Q.map Value.string).toArray 9)).cell? ⟨w.heap.size, q, none⟩ = some (.string lx) := ((Blk.new w _ _).cell q).trans (by simp [hlx])
  have c0' := Lib.hid c0; clear c0 hlx
  obtain ⟨n, cc, hn, hnq, hpc, hk⟩ : ∃ n cc : Nat, P.length = n ∧ n ≤ q + 1 ∧ (∀ (k : Nat) (x : ByteArray), P[k]? = some x → Q[k]? = some x) ∧ True := by
    by_cases hx0 : lx.size = 0
    · rw [if_pos hx0] at hph
      refine ⟨q, 0, by rw [hph, hdl], by omega, fun k x hx => ?_, trivial⟩
      rw [hph] at hx
      have hk := (List.getElem?_eq_some_iff.1 hx).1
      rw [hdl] at hk
      rw [List.getElem?_dropLast, if_pos (by rw [hq]; omega)] at hx
      exact hx
    · rw [if_neg hx0] at hph
      exact ⟨q + 1, 0, by rw [hph, hq], by omega, fun k x hx => by rw [← hph]; exact hx, trivial⟩
  have hnx : (lx.size = 0 ∧ n = q) ∨ (lx.size ≠ 0 ∧ n = q + 1) := by
    by_cases hx0 : lx.size = 0
    · rw [if_pos hx0] at hph
      exact .inl ⟨hx0, by rw [← hn, hph, hdl]⟩
    · rw [if_neg hx0] at hph
      exact .inr ⟨hx0, by rw [← hn, hph, hq]⟩
  have hpsz' : Hid (∀ (k : Nat) (x : ByteArray), P[k]? = some x → x.size ≤ 4000) := fun k x hx => hsz k x (hpc k x hx)
  have hn' := Lib.hid hn
  have hpc' := Lib.hid hpc
  rw [hn]
  have hql : q ≤ 4000 := by omega
  clear hn hpc hk hph hdl hsz hq hs hl2 hl1
  have i0' : (q : Int) + 1 - 1 = q := by omega
  have i1 : (0 : Int) ≤ (q : Int) := by omega
  have i2 : (q : Int) < (q : Int) + 1 := by omega
  have i3 : (q : Int) ≤ (q : Int) + 1 := by omega
  have hB0 : Hid (Blk (w.alloc (.cells (Q.map Value.string).toArray 9)) w.heap.size 9 (Q.map Value.string).toArray) := Blk.new _ _ _
  have hb0 : Hid (Below w.heap.size w (w.alloc (.cells (Q.map Value.string).toArray 9))) := (Below.refl _ _).alloc (Nat.le_refl _) _
  have hi0' := Lib.hid hi0; clear hi0
  have hz0' := Lib.hid hz0; clear hz0
  have hz1' := Lib.hid hz1; clear hz1
  have hz2' := Lib.hid hz2; clear hz2
  generalize w.alloc (.cells (Q.map Value.string).toArray 9) = w1 at *
  have c0 := c0'.out
  go_enter Tryd.func21, Tryd.ntmps21
  go_wp2_with fail
  refine hS'.out.mono ?_
  rintro e w' ⟨rfl, rfl⟩
  clear hS'
  obtain ⟨b, e1, hbn⟩ : ∃ b, (lx.toList == []) = b ∧ ((b = true ∧ n = q) ∨ (b = false ∧ n = q + 1)) := by
    rcases hnx with ⟨hz, h⟩ | ⟨hz, h⟩
    · exact ⟨true, list_emp hz, .inl ⟨rfl, h⟩⟩
    · exact ⟨false, list_ne lx (by omega), .inr ⟨rfl, h⟩⟩
  have e2 : lx.toList.isEmpty = b := by rw [← e1]; cases lx.toList <;> rfl
  clear hnx
  go_upto_if 16 with fail
  go_cut [3] (fun s3 wc => (∃ cc, s3 = .slice (some ⟨w.heap.size, 0, none⟩) n cc) ∧ wc = w')
  case first =>
    clear e1 e2
    cases b with
    | true =>
      obtain rfl : n = q := by simpa using hbn
      go_wp2_with fail
      go_meet
      case rel => exact ⟨⟨_, rfl⟩, rfl⟩
    | false =>
      obtain rfl : n = q + 1 := by simpa using hbn
      go_wp2_with fail
      go_meet
      case rel => exact ⟨⟨_, rfl⟩, rfl⟩
  case rest =>
    obtain ⟨⟨cc2, rfl⟩, rfl⟩ := hcut
    clear c0 c0' e1 e2 hbn i0' i1 i2 i3
    have hnl : n ≤ 4001 := by omega
    clear hnq hql
    go_wp2_with fail
    go_loopw [4, 5] (fun s4 s5 wr => ∃ (i f : Nat) (acc : List Ln), s5 = .int .i64 i ∧ i ≤ n ∧ n < i + f ∧ acc.length ≤ i ∧ Hid (acc ++ lnGo blankB f i (P.drop i) = lnGo blankB (n + 1) 0 P) ∧ Hid (Lns wr (w.heap.size + 1) s4 acc) ∧ Hid (Blk wr w.heap.size 9 (Q.map Value.string).toArray) ∧ Hid (Below w.heap.size w wr)) (fun _ s5 _ => n - (intOf s5).toNat)
    case atStart => exact ⟨0, n + 1, [], rfl, by omega, by omega, by simp, (by first | exact rfl | exact trivial | simp [Hid]), World.ownsRow_nil _ _ _ _, hB0, hb0⟩
    case round =>
      obtain ⟨i, f, acc, rfl, hi, hf, hla, hacc, hown, hB, hb⟩ := hrel
      obtain ⟨wo, hwo⟩ : ∃ y : World, y = wr := ⟨_, rfl⟩
      subst hwo
      clear hB0 hb0
      by_cases hin : i < n
      · have ii : (i : Int) < (n : Int) := by omega
        have ii0 : (0 : Int) ≤ (i : Int) := by omega
        obtain ⟨f', rfl⟩ : ∃ f', f = f' + 1 := ⟨f - 1, by omega⟩
        have hwr : w.heap.size + 1 ≤ wo.heap.size := hB.out.lt
        obtain ⟨x0, hx⟩ : ∃ x, P[i]? = some x := ⟨_, List.getElem?_eq_getElem (by have := hn'.out; omega)⟩
        have cx : wo.cell? ⟨w.heap.size, i, none⟩ = some (.string x0) := (hB.out.cell i).trans (by simp [hpc'.out i x0 hx])
        have hx' := Lib.hid hx; clear hx
        have hxB : Hid (Blk (wo.alloc (.cells #[.int .i64 ((i : Int) + 1), .string x0] 50)) wo.heap.size 50 #[.int .i64 ((i : Int) + 1), .string x0]) := Blk.new _ _ _
        have hbX : Hid (Below wo.heap.size wo (wo.alloc (.cells #[.int .i64 ((i : Int) + 1), .string x0] 50))) := (Below.refl _ _).alloc (Nat.le_refl _) _
        go_wp2_with fail
        go_loopw [5] (fun s5 wx => ∃ (j : Nat) (t0 x t : ByteArray), s5 = .int .i64 j ∧ i ≤ j ∧ j < n ∧ t0.size ≤ j * 4000 ∧ Hid (P[j]? = some x) ∧ Hid (t = t0 ++ x) ∧ Hid (Gath P i j t0 true) ∧ Hid (Blk wx wo.heap.size 50 #[.int .i64 ((i : Int) + 1), .string t]) ∧ Hid (Below wo.heap.size wo wx)) (fun s5 _ => n - (intOf s5).toNat)
        case atStart => exact ⟨i, ⟨#[]⟩, x0, x0, rfl, by omega, by omega, (by show 0 ≤ _; omega), hx', (empty_append' x0).symm, Gath.start P i, hxB, hbX⟩
        case round =>
          clear hxB hbX cx
          clear hx'
          obtain ⟨j, t0, x, t, rfl, hij, hj, hts, hx, ht, hG, hX, hbx⟩ := hrel
          have ij : (j : Int) < (n : Int) := by omega
          have ij0 : (0 : Int) ≤ (j : Int) := by omega
          have hxs := hpsz'.out j x hx.out
          have htsz : t.size = t0.size + x.size := by rw [ht.out, ByteArray.size_append]
          have c1 := hX.out.cell 1
          have f1 := hX.out.frozen 1
          simp only [List.getElem?_toArray, List.getElem?_cons_zero, List.getElem?_cons_succ] at c1
          have hB2 : Blk wr w.heap.size 9 (Q.map Value.string).toArray := hB.out.below hbx.out (by omega)
          have cx : wr.cell? ⟨w.heap.size, j, none⟩ = some (.string x) := (hB2.cell j).trans (by simp [hpc'.out j x hx.out])
          have hC := hass_any x wr (by omega)
          have hG2 := hG.out.step hij hx.out
          have hcutx := @cut_app t0 x
          have hcs := cutB_size x
          have hlp := @lastB_pos x
          obtain ⟨lb, hlb⟩ : ∃ lb, lastB x = lb := ⟨_, rfl⟩
          rw [hlb] at hC hG2 hcutx hlp
          have hC' := Lib.hid hC; clear hC
          cases lb with
          | true =>
            have hxp := hlp rfl
            have hct := hcutx rfl
            rw [← ht.out] at hct
            have hct' := Lib.hid hct; clear hct hcutx hlp
            have hG2' := Lib.hid hG2; clear hG2 hG
            have hbs : Hid (∀ u, Below wo.heap.size wo (wr.setCell ⟨wo.heap.size, 1, none⟩ u)) := fun u => hbx.out.setCell (Nat.le_refl _) u
            have hXs : Hid (∀ u, Blk (wr.setCell ⟨wo.heap.size, 1, none⟩ u) wo.heap.size 50 #[.int .i64 ((i : Int) + 1), u]) := fun u => hX.out.store 1 u
            have htz0 : t.size ≤ j * 4000 + 4000 := by omega
            have htz1 : (0 : Int) ≤ (t.size : Int) - 1 := by omega
            have htz2 : (t.size : Int) - 1 ≤ (t.size : Int) := by omega
            have htz3 : ((t.size : Int) - 1).toNat = t.size - 1 := by omega
            have htsz' := Lib.hid htsz
            clear hbx hX hB2 hlb htsz
            clear ht hx
            go_wp2_with fail
            refine hC'.out.mono ?_
            rintro e v2 ⟨rfl, rfl⟩
            go_upto_region 11 with fail
            have hX3 : Blk (v2.setCell ⟨wo.heap.size, 1, none⟩ (.string (t.extract 0 (t.size - 1)))) wo.heap.size 50 #[.int .i64 ((i : Int) + 1), .string (t0 ++ cutB x)] := by
              rw [hct'.out]; exact hXs.out _
            have hb3 := hbs.out (.string (t.extract 0 (t.size - 1)))
            have htz4 : (t0 ++ cutB x).size ≤ j * 4000 + 4000 := by rw [ByteArray.size_append]; omega
            generalize v2.setCell ⟨wo.heap.size, 1, none⟩ (.string (t.extract 0 (t.size - 1))) = wz at *
            clear c1 f1 cx hXs hbs hct' htz1 htz2 htz3 htsz' hcs hxp htz0
            have c1 := hX3.cell 1
            have f1 := hX3.frozen 1
            simp only [List.getElem?_toArray, List.getElem?_cons_zero, List.getElem?_cons_succ] at c1
            by_cases hjn : j + 1 = n
            · have ij1 : (j : Int) + 1 = (n : Int) := by omega
              have hgr := hG2'.out.stop (.inr (by have := hn'.out; omega))
              generalize t0 ++ cutB x = T at *
              clear hG2' hjn
              have hst := ln_step (bl := blankB) (f := f') (n := i) (by have := hn'.out; omega) hgr (by omega)
              have hacc2 := hacc.out
              rw [hst, show i + (j + 1 - i) = j + 1 from by omega] at hacc2
              have hown2 : Hid (Lns wz (w.heap.size + 1) u4 acc) := own_below hown.out hb3
              have hB5 : Hid (Blk wz w.heap.size 9 (Q.map Value.string).toArray) := hB.out.below hb3 (by omega)
              have hb5 : Hid (Below w.heap.size w wz) := hb.out.trans (hb3.mono hb.out.size)
              have hX5 := Lib.hid hX3
              have hT' := Lib.hid (trimT_any T wz (by omega))
              have hbl : blankB T = blankL (bs T) := rfl
              unfold blankL at hbl
              have hwz : Hid (wo.heap.size < wz.heap.size) := hX3.lt
              clear hst hgr hacc hown hB hb hX3 hb3
              obtain ⟨dw, hdw⟩ : ∃ dw, (bs T).dropWhile sepT = dw := ⟨_, rfl⟩
              rw [hdw] at hT' hbl
              clear hdw
              cases dw with
              | nil =>
                rw [show blankB T = true from hbl] at hacc2
                have hacc2' := Lib.hid hacc2; clear hacc2 hbl
                go_wp2_with fail
                refine hT'.out.mono ?_
                rintro e v3 ⟨⟨u, rfl, hu⟩, hy⟩
                have hz : u.size = 0 := by rw [← length_bs, hu]; rfl
                have e1 : (u.toList == []) = true := list_emp hz
                have hown3 : Hid (Lns v3 (w.heap.size + 1) u4 acc) := own_below hown2.out hy
                have hB6 := Lib.hid (hB5.out.below hy hB5.out.lt)
                have hb6 := Lib.hid (hb5.out.trans (hy.mono hb5.out.size))
                clear hy hown2 hB5 hb5 c1 f1 hz hu
                go_wp2_with fail
                go_roundw
                case rel => exact ⟨j + 1, f', acc, by go_num, by omega, by omega, by omega, (by have := hacc2'.out; simp at this ⊢; exact Lib.hid this), hown3, hB6, hb6⟩
                case measure => simp [intOf]; omega
              | cons c r =>
                replace hbl : blankB T = decide (c = 35) := hbl
                by_cases h35 : c = 35
                · rw [hbl, decide_eq_true h35] at hacc2
                  have hacc2' := Lib.hid hacc2; clear hacc2 hbl
                  go_wp2_with fail
                  refine hT'.out.mono ?_
                  rintro e v3 ⟨⟨u, rfl, hu⟩, hy⟩
                  have hz : 0 < u.size := by rw [← length_bs, hu]; simp
                  have e1 : (u.toList == []) = false := list_ne u hz
                  have iu0 : (0 : Int) < (u.size : Int) := by omega
                  have hc : (u[0]'hz).toNat = c := by
                    have h1 := bs_head hz
                    rw [hu] at h1
                    exact (List.cons.inj h1).1.symm
                  have i35 : ((u[0]'hz).toNat : Int) = 35 := by omega
                  have e35 : (((u[0]'hz).toNat : Int) == 35) = true := by rw [i35]; rfl
                  have hown3 : Hid (Lns v3 (w.heap.size + 1) u4 acc) := own_below hown2.out hy
                  have hB6 := Lib.hid (hB5.out.below hy hB5.out.lt)
                  have hb6 := Lib.hid (hb5.out.trans (hy.mono hb5.out.size))
                  clear hy hown2 hB5 hb5 c1 f1 hu hc
                  go_wp2_with fail
                  go_roundw
                  case rel => exact ⟨j + 1, f', acc, by go_num, by omega, by omega, by omega, (by have := hacc2'.out; simp at this ⊢; exact Lib.hid this), hown3, hB6, hb6⟩
                  case measure => simp [intOf]; omega
                · rw [hbl, decide_eq_false h35] at hacc2
                  have hacc2' := Lib.hid hacc2; clear hacc2 hbl
                  go_wp2_with fail
                  refine hT'.out.mono ?_
                  rintro e v3 ⟨⟨u, rfl, hu⟩, hy⟩
                  have hz : 0 < u.size := by rw [← length_bs, hu]; simp
                  have e1 : (u.toList == []) = false := list_ne u hz
                  have iu0 : (0 : Int) < (u.size : Int) := by omega
                  have hc : (u[0]'hz).toNat = c := by
                    have h1 := bs_head hz
                    rw [hu] at h1
                    exact (List.cons.inj h1).1.symm
                  have i35 : ¬ ((u[0]'hz).toNat : Int) = 35 := by omega
                  have e35 : (((u[0]'hz).toNat : Int) == 35) = false := beq_eq_false_iff_ne.2 i35
                  have hown3 : Hid (Lns v3 (w.heap.size + 1) u4 acc) := own_below hown2.out hy
                  have hB6 := Lib.hid (hB5.out.below hy hB5.out.lt)
                  have hb6 := Lib.hid (hb5.out.trans (hy.mono hb5.out.size))
                  have hX6 := hX5.out.below hy hX5.out.lt
                  have d0 := hX6.cell 0
                  have d1 := hX6.cell 1
                  simp only [List.getElem?_toArray, List.getElem?_cons_zero, List.getElem?_cons_succ] at d0 d1
                  have hs3 : w.heap.size + 1 ≤ v3.heap.size := hB6.out.lt
                  clear hy hown2 hB5 hb5 c1 f1 hX6 hX5 hu hc
                  go_wp2_with (at_builtin; refine wpList_append_own _ rfl (.tmp 73) (.tmp 75) 44 rfl (w.heap.size + 1) 50 i0 (.agg #[.int .i64 0, .string ⟨#[]⟩]) 2 24 Tryd.underlying44 hi0'.out hz0'.out hz1'.out hz2'.out rfl (by decide) u4 acc.length (flatN acc) rfl (own_below hown3.out (Below.alloc (Below.refl _ _) (Nat.le_refl _) _)) ⟨v3.heap.size, 0, none⟩ 1 1 [.int .i64 ((i : Int) + 1), .string T] rfl rfl (cell_two_new _ _ _ _) (by intro u hu; simp at hu; rcases hu with rfl | rfl <;> rfl) (by simp only [maxLen]; omega) (by omega) (by simp; omega) ?_; intro v' w1' hown' hgrow _)
                  go_roundw
                  case rel =>
                    refine ⟨j + 1, f', acc ++ [(i + 1, T)], by go_num, by omega, by omega, by simp; omega, (by have := hacc2'.out; simp at this ⊢; exact Lib.hid this), ?_, ?_, ?_⟩
                    · show Lns w1' _ _ _
                      unfold Lns
                      rw [flatN_app, List.length_append]
                      exact hown'
                    · have h1 := hB6.out.alloc (.cells #[.int .i64 ((i : Int) + 1), .string T] 50)
                      refine h1.same (hgrow.block _ (by simp; omega) fun e => ?_)
                      have := hown3.out.lt _ e.symm
                      omega
                    · exact (hb6.out.alloc (Nat.le_trans (Nat.le_succ _) hs3) _).grown hgrow (by simp; omega) (fun k e => by have := hown3.out.lt _ e; omega)
                  case measure => simp [intOf]; omega
            · have ij1 : ¬ (j : Int) + 1 = (n : Int) := by omega
              have ij2 : (j : Int) + 1 < (n : Int) := by omega
              have ij3 : ((j : Int) + 1).toNat = j + 1 := by omega
              have ij4 : (0 : Int) ≤ (j : Int) + 1 := by omega
              obtain ⟨y, hy⟩ : ∃ y, P[j + 1]? = some y := ⟨_, List.getElem?_eq_getElem (by have := hn'.out; omega)⟩
              have hB4 : Blk wz w.heap.size 9 (Q.map Value.string).toArray := hB.out.below hb3 (by omega)
              have cy : wz.cell? ⟨w.heap.size, j + 1, none⟩ = some (.string y) := (hB4.cell (j + 1)).trans (by simp [hpc'.out _ y hy])
              have hys := hpsz'.out _ y hy
              have hy' := Lib.hid hy; clear hy hB4
              obtain ⟨tc, htc⟩ : ∃ tc, tc = t0 ++ cutB x := ⟨_, rfl⟩
              rw [← htc] at hX3 c1 hG2' htz4
              clear htc
              go_upto_region 13 with fail
              have hX5 : Blk wz.drew wo.heap.size 50 #[.int .i64 ((i : Int) + 1), .string tc] := hX3.drew
              have hb5 : Below wo.heap.size wo wz.drew := hb3.drew
              have c1d : wz.drew.cell? ⟨wo.heap.size, 1, none⟩ = some (.string tc) := c1
              have f1d : wz.drew.frozen? ⟨wo.heap.size, 1, none⟩ = false := f1
              have cyd : wz.drew.cell? ⟨w.heap.size, j + 1, none⟩ = some (.string y) := cy
              refine still_tail 8 (by kernel_rfl) (by kernel_rfl) ?_
              clear c1 f1 cy hX3 hb3
              generalize wz.drew = wy at *
              have hX4 : Hid (Blk (wy.setCell ⟨wo.heap.size, 1, none⟩ (.string (tc ++ y))) wo.heap.size 50 #[.int .i64 ((i : Int) + 1), .string (tc ++ y)]) := hX5.store 1 _
              have hb4 : Hid (Below wo.heap.size wo (wy.setCell ⟨wo.heap.size, 1, none⟩ (.string (tc ++ y)))) := hb5.setCell (p := ⟨wo.heap.size, 1, none⟩) (Nat.le_refl _) _
              clear hX5 hb5
              have hsum : ¬ (9223372036854775807 < tc.size + y.size) := by omega
              simp only [List.take_succ_cons, List.take_zero, List.drop_succ_cons, List.drop_zero]
              repeat still_step
              refine wpStill_nil ?_
              go_wp2_with fail
              go_roundw
              case rel => exact ⟨j + 1, tc, y, tc ++ y, by go_num, by omega, by omega, by omega, hy', rfl, hG2', hX4, hb4⟩
              case measure => simp [intOf]; omega
          | false =>
            have hgr := hG2.stop (.inl rfl)
            have hcx : cutB x = x := by unfold cutB; rw [hlb]; rfl
            rw [hcx, ← ht.out] at hgr
            have hX3 := hX.out
            have hb3 := hbx.out
            have htz4 : t.size ≤ j * 4000 + 4000 := by omega
            clear hG2 hG hcutx hlp hlb hcx hX hbx hB2 htsz
            clear ht hx hcs hxs
            go_wp2_with fail
            refine hC'.out.mono ?_
            rintro e wz ⟨rfl, rfl⟩
            clear hC' cx
            obtain ⟨T, hTt⟩ : ∃ T, T = t := ⟨_, rfl⟩
            rw [← hTt] at hgr hX3 htz4 c1
            clear hTt
            have hst := ln_step (bl := blankB) (f := f') (n := i) (by have := hn'.out; omega) hgr (by omega)
            have hacc2 := hacc.out
            rw [hst, show i + (j + 1 - i) = j + 1 from by omega] at hacc2
            have hown2 : Hid (Lns wz (w.heap.size + 1) u4 acc) := own_below hown.out hb3
            have hB5 : Hid (Blk wz w.heap.size 9 (Q.map Value.string).toArray) := hB.out.below hb3 (by omega)
            have hb5 : Hid (Below w.heap.size w wz) := hb.out.trans (hb3.mono hb.out.size)
            have hX5 := Lib.hid hX3
            have hT' := Lib.hid (trimT_any T wz (by omega))
            have hbl : blankB T = blankL (bs T) := rfl
            unfold blankL at hbl
            have hwz : Hid (wo.heap.size < wz.heap.size) := hX3.lt
            clear hst hgr hacc hown hB hb hX3 hb3
            obtain ⟨dw, hdw⟩ : ∃ dw, (bs T).dropWhile sepT = dw := ⟨_, rfl⟩
            rw [hdw] at hT' hbl
            clear hdw
            cases dw with
            | nil =>
              rw [show blankB T = true from hbl] at hacc2
              have hacc2' := Lib.hid hacc2; clear hacc2 hbl
              go_wp2_with fail
              refine hT'.out.mono ?_
              rintro e v3 ⟨⟨u, rfl, hu⟩, hy⟩
              have hz : u.size = 0 := by rw [← length_bs, hu]; rfl
              have e1 : (u.toList == []) = true := list_emp hz
              have hown3 : Hid (Lns v3 (w.heap.size + 1) u4 acc) := own_below hown2.out hy
              have hB6 := Lib.hid (hB5.out.below hy hB5.out.lt)
              have hb6 := Lib.hid (hb5.out.trans (hy.mono hb5.out.size))
              clear hy hown2 hB5 hb5 c1 f1 hz hu
              go_wp2_with fail
              go_roundw
              case rel => exact ⟨j + 1, f', acc, by go_num, by omega, by omega, by omega, (by have := hacc2'.out; simp at this ⊢; exact Lib.hid this), hown3, hB6, hb6⟩
              case measure => simp [intOf]; omega
            | cons c r =>
              replace hbl : blankB T = decide (c = 35) := hbl
              by_cases h35 : c = 35
              · rw [hbl, decide_eq_true h35] at hacc2
                have hacc2' := Lib.hid hacc2; clear hacc2 hbl
                go_wp2_with fail
                refine hT'.out.mono ?_
                rintro e v3 ⟨⟨u, rfl, hu⟩, hy⟩
                have hz : 0 < u.size := by rw [← length_bs, hu]; simp
                have e1 : (u.toList == []) = false := list_ne u hz
                have iu0 : (0 : Int) < (u.size : Int) := by omega
                have hc : (u[0]'hz).toNat = c := by
                  have h1 := bs_head hz
                  rw [hu] at h1
                  exact (List.cons.inj h1).1.symm
                have i35 : ((u[0]'hz).toNat : Int) = 35 := by omega
                have e35 : (((u[0]'hz).toNat : Int) == 35) = true := by rw [i35]; rfl
                have hown3 : Hid (Lns v3 (w.heap.size + 1) u4 acc) := own_below hown2.out hy
                have hB6 := Lib.hid (hB5.out.below hy hB5.out.lt)
                have hb6 := Lib.hid (hb5.out.trans (hy.mono hb5.out.size))
                clear hy hown2 hB5 hb5 c1 f1 hu hc
                go_wp2_with fail
                go_roundw
                case rel => exact ⟨j + 1, f', acc, by go_num, by omega, by omega, by omega, (by have := hacc2'.out; simp at this ⊢; exact Lib.hid this), hown3, hB6, hb6⟩
                case measure => simp [intOf]; omega
              · rw [hbl, decide_eq_false h35] at hacc2
                have hacc2' := Lib.hid hacc2; clear hacc2 hbl
                go_wp2_with fail
                refine hT'.out.mono ?_
                rintro e v3 ⟨⟨u, rfl, hu⟩, hy⟩
                have hz : 0 < u.size := by rw [← length_bs, hu]; simp
                have e1 : (u.toList == []) = false := list_ne u hz
                have iu0 : (0 : Int) < (u.size : Int) := by omega
                have hc : (u[0]'hz).toNat = c := by
                  have h1 := bs_head hz
                  rw [hu] at h1
                  exact (List.cons.inj h1).1.symm
                have i35 : ¬ ((u[0]'hz).toNat : Int) = 35 := by omega
                have e35 : (((u[0]'hz).toNat : Int) == 35) = false := beq_eq_false_iff_ne.2 i35
                have hown3 : Hid (Lns v3 (w.heap.size + 1) u4 acc) := own_below hown2.out hy
                have hB6 := Lib.hid (hB5.out.below hy hB5.out.lt)
                have hb6 := Lib.hid (hb5.out.trans (hy.mono hb5.out.size))
                have hX6 := hX5.out.below hy hX5.out.lt
                have d0 := hX6.cell 0
                have d1 := hX6.cell 1
                simp only [List.getElem?_toArray, List.getElem?_cons_zero, List.getElem?_cons_succ] at d0 d1
                have hs3 : w.heap.size + 1 ≤ v3.heap.size := hB6.out.lt
                clear hy hown2 hB5 hb5 c1 f1 hX6 hX5 hu hc
                go_wp2_with (at_builtin; refine wpList_append_own _ rfl (.tmp 73) (.tmp 75) 44 rfl (w.heap.size + 1) 50 i0 (.agg #[.int .i64 0, .string ⟨#[]⟩]) 2 24 Tryd.underlying44 hi0'.out hz0'.out hz1'.out hz2'.out rfl (by decide) u4 acc.length (flatN acc) rfl (own_below hown3.out (Below.alloc (Below.refl _ _) (Nat.le_refl _) _)) ⟨v3.heap.size, 0, none⟩ 1 1 [.int .i64 ((i : Int) + 1), .string T] rfl rfl (cell_two_new _ _ _ _) (by intro u hu; simp at hu; rcases hu with rfl | rfl <;> rfl) (by simp only [maxLen]; omega) (by omega) (by simp; omega) ?_; intro v' w1' hown' hgrow _)
                go_roundw
                case rel =>
                  refine ⟨j + 1, f', acc ++ [(i + 1, T)], by go_num, by omega, by omega, by simp; omega, (by have := hacc2'.out; simp at this ⊢; exact Lib.hid this), ?_, ?_, ?_⟩
                  · show Lns w1' _ _ _
                    unfold Lns
                    rw [flatN_app, List.length_append]
                    exact hown'
                  · have h1 := hB6.out.alloc (.cells #[.int .i64 ((i : Int) + 1), .string T] 50)
                    refine h1.same (hgrow.block _ (by simp; omega) fun e => ?_)
                    have := hown3.out.lt _ e.symm
                    omega
                  · exact (hb6.out.alloc (Nat.le_trans (Nat.le_succ _) hs3) _).grown hgrow (by simp; omega) (fun k e => by have := hown3.out.lt _ e; omega)
                case measure => simp [intOf]; omega
      · obtain rfl : i = n := by omega
        have hfin : Lns wo (w.heap.size + 1) u4 (lnGo blankB (i + 1) 0 P) := by
          have h1 := hacc.out
          have hd : P.drop i = [] := List.drop_eq_nil_of_le (by have := hn'.out; omega)
          have h2 : lnGo blankB f i (P.drop i) = [] := by
            rw [hd]
            cases f <;> rfl
          rw [h2, List.append_nil] at h1
          rw [← h1]
          exact hown.out
        have hfin' := Lib.hid hfin
        clear hfin hacc hown
        go_wp2_with fail
        go_ret
        exact ⟨⟨_, rfl, hfin'.out⟩, hb.out⟩

end Go.Proofs.YtofemhaepadggaaDoor
