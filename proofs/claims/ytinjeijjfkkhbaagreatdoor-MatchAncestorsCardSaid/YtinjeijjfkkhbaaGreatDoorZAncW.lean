/-
  THE WALK of coldpluglaw12.MatchAncestors: it answers true.
-/
import Derived.Test.YtinjeijjfkkhbaaGreatDoorZTree
import Derived.Test.YtinjeijjfkkhbaaGreatDoorZUp
import Derived.Test.YtinjeijjfkkhbaaGreatDoorZRefAnc
import Derived.Test.YtinjeijjfkkhbaaGreatDoorMatchKnown
namespace Go.Proofs.YtinjeijjfkkhbaaGreatDoor
open Go Go.RowKit

theorem wf_small {i : Int} (h1 : -1 ≤ i) (h2 : i ≤ 1000) : Wf i := by
  show (Lit.int .i64 i).wf = true
  simp [Lit.wf, IntKind.min, IntKind.max, IntKind.bits, IntKind.signed]
  omega

/-- Both find the same, in a sound tree. -/
theorem both_any {Y : World} {g : Nat} {p : Option Addr} {n c : Nat} {l : List Dev} {i : Int} {tv : Value} {ts : List Trm} (ht : TreeOk Y g 9 p n c l) (hi1 : -1 ≤ i) (hi2 : i ≤ 100) (hts : TrmsAt Y tv ts) (htv : ∀ t ∈ ts, t.v.size ≤ 9223372036854775807) (htl : ts.length ≤ 1000000) :
    ∃ R : Int × Bool, ∀ W, Below Y.heap.size Y W →
      (Calls Tryz.prog 9 #[tv, .agg #[.slice p n c], .int .i64 i] W fun e w' => e = .returned (.tuple #[.int .i64 R.1, .bool R.2]) ∧ Below W.heap.size W w') ∧
      (Calls Tryz.prog 10 #[tv, .agg #[.slice p n c], .int .i64 i] W fun e w' => e = .returned (.tuple #[.int .i64 R.1, .bool R.2]) ∧ Below W.heap.size W w') := by
  have hf := ht.few
  refine ⟨ancR ts (chainR l n i), fun W hW => ⟨?_, ?_⟩⟩
  · have h := ancestor_any ts tv l p n c i W (ht.devs.below hW) ht.len (by omega) (fun d hd => by
      have h1 := ht.each d hd
      have h2 := ht.sound.2 d hd
      exact ⟨wf_small (by omega) (by omega), wf_small (by omega) (by omega)⟩) (fun d hd => by
      have := (ht.each d hd).1.1.2.1
      omega) (fun d hd => (ht.each d hd).1.2.2.2) (wf_small hi1 (by omega)) (RowAt.below hts hW) htv (fun d hd => (ht.each d hd).1.2.1)
    rw [chainF_ref ht.sound, ht.len] at h
    exact h
  · exact (rancestor_any ts tv l p n c i W (ht.devs.below hW) (by omega) (RowAt.below hts hW) htl htv (fun d hd => (ht.each d hd).1.2.1)).mono fun e w' h => h

set_option maxRecDepth 100000 in
set_option maxHeartbeats 8000000 in
theorem ancestors_walk (a0 : Option Addr) (len0 cap0 : Nat) (a1 : Option Addr) (len1 cap1 : Nat) (ts : List Trm) (m : Int) (w : World) (h0 : 0 < len0 → ∃ x : Addr, a0 = some x ∧ ∀ i, i < len0 → ∃ z : Int, w.cell? (x.add i) = some (.int .i64 z)) (hraw : TrmsAt w (.slice a1 len1 cap1) ts) (hlen : ts.length = len1) (htv : ∀ t ∈ ts, t.v.size ≤ 9223372036854775807) (hm : MaxIs m w) :
    Calls Tryz.prog 3 #[.slice a0 len0 cap0, .slice a1 len1 cap1] w fun e w' => e = .returned (.bool true) ∧ Below w.heap.size w w' := by
  have h0lt : 0 < w.heap.size := hm.lt
  have hT0 : Hid (Tape (w.alloc (.cells #[.slice a0 len0 cap0, .int .i64 0] 27)) w.heap.size w.heap.size 0) := tape_new a0 len0 cap0 w h0
  have hb0 : Below w.heap.size w (w.alloc (.cells #[.slice a0 len0 cap0, .int .i64 0] 27)) := (Below.refl _ _).alloc (Nat.le_refl _) _
  have hO0 : Hid (Only (fun j => j = w.heap.size) w (w.alloc (.cells #[.slice a0 len0 cap0, .int .i64 0] 27))) := (Only.refl _ _).alloc _
  have hm0 : Hid (MaxIs m (w.alloc (.cells #[.slice a0 len0 cap0, .int .i64 0] 27))) := hm.below hb0
  have hraw' := Lib.hid (fun (W : World) (h : Below w.heap.size w W) => RowAt.below hraw h)
  have hlen' := Lib.hid hlen
  have htv' := Lib.hid htv
  have hkeep : Hid (∀ W, Only (fun j => j = w.heap.size) w W → Below w.heap.size w W) := fun W h => h.below (fun k e => by omega) (Nat.le_refl _)
  have hlen20 := hlen
  have hK := Lib.hid (fun W => mknown_any W)
  clear h0 hraw hlen htv hm hb0 hlen20
  by_cases h20 : 20 < len1
  · have i20 : (20 : Int) < (len1 : Int) := by omega
    go_enter Tryz.func3, Tryz.ntmps3
    go_wp2_with fail
    refine (hK.out _).mono ?_
    rintro e v1 ⟨rfl, hb1⟩
    go_wp2_with fail
    go_ret
    exact ⟨rfl, hb1⟩
  · have i20 : ¬ (20 : Int) < (len1 : Int) := by omega
    go_enter Tryz.func3, Tryz.ntmps3
    go_upto_region 4 with fail
    generalize w.alloc (.cells #[.slice a0 len0 cap0, .int .i64 0] 27) = w1 at *
    have hC := Lib.hid (ztree_any w.heap.size w.heap.size 0 m w1 hT0.out (by omega) hm0.out h0lt)
    go_wp2_with fail
    refine hC.out.mono ?_
    rintro e x1 ⟨p, n, c, l, q, rfl, htree, hq, hTx, hOx⟩
    have hO1 := Lib.hid ((hO0.out.trans hOx).alloc (.cells #[.slice p n c] 30))
    have hb1 : Below x1.heap.size x1 (x1.alloc (.cells #[.slice p n c] 30)) := (Below.refl _ _).alloc (Nat.le_refl _) _
    have hT1 : Hid (Tape (x1.alloc (.cells #[.slice p n c] 30)) w.heap.size w.heap.size q) := hTx.below hb1
    have htr : Hid (TreeOk (x1.alloc (.cells #[.slice p n c] 30)) w.heap.size 9 p n c l) := htree.below hb1
    have hX : Hid (Blk (x1.alloc (.cells #[.slice p n c] 30)) x1.heap.size 30 #[.slice p n c]) := Blk.new _ _ _
    have hlt1 : w.heap.size < x1.heap.size := hTx.lt.2
    clear hC hT0 hO0 hm0 hTx hOx hb1 htree
    go_upto_region 5 with fail
    generalize hte : x1.heap.size = tb at *
    generalize x1.alloc (.cells #[.slice p n c] 30) = y1 at *
    clear hte
    have cX := hX.out.cell 0
    simp only [List.getElem?_toArray, List.getElem?_cons_zero] at cX
    have hC := Lib.hid (zsome_any w.heap.size w.heap.size q p n c l y1 htr.out hT1.out (by omega))
    go_wp2_with fail
    refine hC.out.mono ?_
    rintro e x2 ⟨i, q2, rfl, hi1, hi2, hq2, hTx, hOx⟩
    have hO2 := Lib.hid (hO1.out.trans hOx)
    have hT2 := Lib.hid hTx
    have htr2 := Lib.hid (htr.out.only hOx)
    have hX2 := Lib.hid (hX.out.only hOx (by omega))
    clear hC hTx hOx hO1 hT1 htr hX cX
    have hC := Lib.hid (zup_any w.heap.size w.heap.size q2 x2 hT2.out (by omega))
    go_wp2_with fail
    refine hC.out.mono ?_
    rintro e x3 ⟨V, us, q3, rfl, hus, hul, husz, hV, hq3, hTx, hOx⟩
    obtain ⟨ua, uc, rfl⟩ := hus.shape
    obtain ⟨un, hun⟩ : ∃ un, us.length = un := ⟨_, rfl⟩
    rw [hun] at hus hV hul ⊢
    have hO3 := Lib.hid ((hO2.out.trans hOx).alloc (.cells #[.slice a1 len1 cap1, .slice ua un uc] 23))
    have hb3 : Below x3.heap.size x3 (x3.alloc (.cells #[.slice a1 len1 cap1, .slice ua un uc] 23)) := (Below.refl _ _).alloc (Nat.le_refl _) _
    have htr3 : Hid (TreeOk (x3.alloc (.cells #[.slice a1 len1 cap1, .slice ua un uc] 23)) w.heap.size 9 p n c l) := (htr2.out.only hOx).below hb3
    have hX3 : Hid (Blk (x3.alloc (.cells #[.slice a1 len1 cap1, .slice ua un uc] 23)) tb 30 #[.slice p n c]) := (hX2.out.only hOx (by omega)).alloc _
    have hus3 : Hid (TrmsAt (x3.alloc (.cells #[.slice a1 len1 cap1, .slice ua un uc] 23)) (.slice ua un uc) us) := RowAt.below hus hb3
    have hL : Hid (Blk (x3.alloc (.cells #[.slice a1 len1 cap1, .slice ua un uc] 23)) x3.heap.size 23 #[.slice a1 len1 cap1, .slice ua un uc]) := Blk.new _ _ _
    have hraw3 := Lib.hid (hraw'.out _ (hkeep.out _ hO3.out))
    have husz' : Hid (∀ t ∈ us, t.v.size ≤ 9223372036854775807) := fun t ht => by have := husz t ht; omega
    have hun' := Lib.hid hun
    clear hC hTx hOx hb3 hO2 hT2 htr2 hX2 hus husz hun hV
    go_upto_region 7 with fail
    generalize hle : x3.heap.size = lb at *
    generalize x3.alloc (.cells #[.slice a1 len1 cap1, .slice ua un uc] 23) = y3 at *
    clear hle
    have hB1 := both_any htr3.out hi1 hi2 hraw3.out htv'.out (by have := hlen'.out; omega)
    have hB2 := both_any htr3.out hi1 hi2 hus3.out husz'.out (by have := hun'.out; omega)
    obtain ⟨R1, hR1⟩ := hB1
    obtain ⟨R2, hR2⟩ := hB2
    have hR1' := Lib.hid hR1
    have hR2' := Lib.hid hR2
    clear hR1 hR2
    have hk : Hid (∀ Y, Below y3.heap.size y3 Y → Y.cell? ⟨tb, 0, none⟩ = some (.slice p n c) ∧ Y.cell? ⟨lb, 0, none⟩ = some (.slice a1 len1 cap1) ∧ Y.cell? ⟨lb, 1, none⟩ = some (.slice ua un uc)) := fun Y h =>
      ⟨(hX3.out.below h hX3.out.lt).cell 0, (hL.out.below h hL.out.lt).cell 0, (hL.out.below h hL.out.lt).cell 1⟩
    clear hX3 hL htr3 hus3 hraw3 husz' hraw' htv'
    go_wp2_with fail
    go_loopw [9] (fun s9 wr => ∃ k : Nat, s9 = .int .i64 k ∧ k ≤ 2 ∧ Hid (Below y3.heap.size y3 wr)) (fun s9 _ => 2 - (intOf s9).toNat)
    case atStart => exact ⟨0, rfl, by omega, (show Below y3.heap.size y3 y3 from Below.refl _ _)⟩
    case round =>
      obtain ⟨k, rfl, hk2, hb⟩ := hrel
      have ik0 : (0 : Int) ≤ (k : Int) := by omega
      rcases (by omega : k = 0 ∨ k = 1 ∨ k = 2) with rfl | rfl | rfl
      · skip
        go_upto_region 10 with fail
        go_cut [10, 11] (fun sa sb wx => sa = .int .i64 R1.1 ∧ sb = .bool R1.2 ∧ Hid (Below y3.heap.size y3 wx))
        case first =>
          have hd0 : Below y3.heap.size y3 wr.drew := hb.out.drew
          obtain ⟨t0, t1, t2⟩ := hk.out _ hd0
          have hC := Lib.hid (((hR1'.out _ hd0).1).mono fun e w' h => (show _ ∧ Below y3.heap.size y3 w' from ⟨h.1, hd0.trans (h.2.mono hd0.size)⟩))
          (first | (go_region_law (go_simp; go_at_call 9; refine hC.out.mono ?_; rintro e v1 ⟨rfl, hy⟩; obtain ⟨z0, z1, z2⟩ := hk.out _ hy)) | fail)
          all_goals
            clear hC hd0 t0 t1 t2 z0 z1 z2
            go_wp2_with fail
            go_meet
            case rel => exact ⟨rfl, rfl, hy⟩
        case rest =>
          obtain ⟨rfl, rfl, hb4⟩ := hcut
          generalize wc = w5 at *
          go_upto_region 11 with fail
          go_cut [12, 13] (fun sa sb wx => sa = .int .i64 R1.1 ∧ sb = .bool R1.2 ∧ Hid (Below y3.heap.size y3 wx))
          case first =>
            have hd0 : Below y3.heap.size y3 w5.drew := hb4.out.drew
            obtain ⟨t0, t1, t2⟩ := hk.out _ hd0
            have hC := Lib.hid (((hR1'.out _ hd0).2).mono fun e w' h => (show _ ∧ Below y3.heap.size y3 w' from ⟨h.1, hd0.trans (h.2.mono hd0.size)⟩))
            (first | (go_region_law (go_simp; go_at_call 10; refine hC.out.mono ?_; rintro e v1 ⟨rfl, hy⟩; obtain ⟨z0, z1, z2⟩ := hk.out _ hy)) | fail)
            all_goals
              clear hC hd0 t0 t1 t2 z0 z1 z2
              go_wp2_with fail
              go_meet
              case rel => exact ⟨rfl, rfl, hy⟩
          case rest =>
            obtain ⟨rfl, rfl, hb6⟩ := hcut
            generalize wc = w6 at *
            go_wp2_with fail
            go_roundw
            case rel => exact ⟨1, by go_num, by omega, hb6⟩
            case measure => simp [intOf]
      · skip
        go_upto_region 10 with fail
        go_cut [10, 11] (fun sa sb wx => sa = .int .i64 R2.1 ∧ sb = .bool R2.2 ∧ Hid (Below y3.heap.size y3 wx))
        case first =>
          have hd0 : Below y3.heap.size y3 wr.drew := hb.out.drew
          obtain ⟨t0, t1, t2⟩ := hk.out _ hd0
          have hC := Lib.hid (((hR2'.out _ hd0).1).mono fun e w' h => (show _ ∧ Below y3.heap.size y3 w' from ⟨h.1, hd0.trans (h.2.mono hd0.size)⟩))
          (first | (go_region_law (go_simp; go_at_call 9; refine hC.out.mono ?_; rintro e v1 ⟨rfl, hy⟩; obtain ⟨z0, z1, z2⟩ := hk.out _ hy)) | fail)
          all_goals
            clear hC hd0 t0 t1 t2 z0 z1 z2
            go_wp2_with fail
            go_meet
            case rel => exact ⟨rfl, rfl, hy⟩
        case rest =>
          obtain ⟨rfl, rfl, hb4⟩ := hcut
          generalize wc = w5 at *
          go_upto_region 11 with fail
          go_cut [12, 13] (fun sa sb wx => sa = .int .i64 R2.1 ∧ sb = .bool R2.2 ∧ Hid (Below y3.heap.size y3 wx))
          case first =>
            have hd0 : Below y3.heap.size y3 w5.drew := hb4.out.drew
            obtain ⟨t0, t1, t2⟩ := hk.out _ hd0
            have hC := Lib.hid (((hR2'.out _ hd0).2).mono fun e w' h => (show _ ∧ Below y3.heap.size y3 w' from ⟨h.1, hd0.trans (h.2.mono hd0.size)⟩))
            (first | (go_region_law (go_simp; go_at_call 10; refine hC.out.mono ?_; rintro e v1 ⟨rfl, hy⟩; obtain ⟨z0, z1, z2⟩ := hk.out _ hy)) | fail)
            all_goals
              clear hC hd0 t0 t1 t2 z0 z1 z2
              go_wp2_with fail
              go_meet
              case rel => exact ⟨rfl, rfl, hy⟩
          case rest =>
            obtain ⟨rfl, rfl, hb6⟩ := hcut
            generalize wc = w6 at *
            go_wp2_with fail
            go_roundw
            case rel => exact ⟨2, by go_num, by omega, hb6⟩
            case measure => simp [intOf]
      · have hfin := Lib.hid (hkeep.out _ (hO3.out.trans (Only.of_below hb.out fun k h1 h2 => by omega)))
        go_wp2_with fail
        refine (hK.out _).mono ?_
        rintro e v9 ⟨rfl, hb9⟩
        go_wp2_with fail
        go_ret
        exact ⟨rfl, hfin.out.trans (hb9.mono hfin.out.size)⟩

end Go.Proofs.YtinjeijjfkkhbaaGreatDoor
