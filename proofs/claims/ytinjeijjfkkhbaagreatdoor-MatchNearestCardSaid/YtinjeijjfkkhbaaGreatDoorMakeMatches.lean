/-
  THE WALKS of the makers of terms: coldplugworld.Matches, Assigns, coldpluglaw12.term.
-/
import Derived.Test.YtinjeijjfkkhbaaGreatDoorMakeBase
namespace Go.Proofs.YtinjeijjfkkhbaaGreatDoor
open Go.RowKit

def tV1 : List ByteArray := [⟨#[97, 100, 100]⟩, ⟨#[114, 101, 109, 111, 118, 101]⟩, ⟨#[42]⟩]
def tV2 : List ByteArray := [⟨#[115, 100, 42]⟩, ⟨#[101, 116, 104, 63]⟩, ⟨#[115, 100, 97, 124, 115, 100, 98]⟩, ⟨#[42, 91, 48, 45, 57, 93]⟩, ⟨#[42]⟩]
def tV3 : List ByteArray := [⟨#[98, 108, 111, 99, 107]⟩, ⟨#[110, 101, 116]⟩, ⟨#[117, 115, 98, 124, 112, 99, 105]⟩, ⟨#[42]⟩]
def tV4 : List ByteArray := [⟨#[]⟩, ⟨#[104, 105, 100]⟩, ⟨#[63, 42]⟩]
def tV5 : List ByteArray := [⟨#[]⟩, ⟨#[49]⟩, ⟨#[97, 99, 42]⟩, ⟨#[63, 42]⟩]
def tN5 : List ByteArray := [⟨#[115, 105, 122, 101]⟩, ⟨#[118, 101, 110, 100, 111, 114]⟩, ⟨#[115, 108, 111, 116]⟩]
def tV6 : List ByteArray := [⟨#[]⟩, ⟨#[49]⟩, ⟨#[117, 63]⟩, ⟨#[63, 42]⟩]
def tN6 : List ByteArray := [⟨#[73, 68, 95, 65]⟩, ⟨#[73, 68, 95, 66]⟩, ⟨#[73, 68, 95, 70, 83, 95, 85, 85, 73, 68]⟩, ⟨#[83, 85, 66, 83, 89, 83, 84, 69, 77]⟩]
def tV7 : List ByteArray := [⟨#[115, 101, 97, 116]⟩, ⟨#[120, 42]⟩, ⟨#[42]⟩]
def tV8 : List ByteArray := [⟨#[115, 100, 97]⟩, ⟨#[117, 115, 98, 42]⟩, ⟨#[112, 99, 105, 48]⟩]
def tV9 : List ByteArray := [⟨#[117, 115, 98]⟩, ⟨#[98, 108, 111, 99, 107]⟩, ⟨#[112, 99, 105]⟩]
def tV10 : List ByteArray := [⟨#[104, 105, 100]⟩, ⟨#[]⟩]
def tV11 : List ByteArray := [⟨#[49]⟩, ⟨#[97, 99, 109, 101]⟩, ⟨#[]⟩]
def tN11 : List ByteArray := [⟨#[115, 105, 122, 101]⟩, ⟨#[118, 101, 110, 100, 111, 114]⟩]
def tV12 : List ByteArray := [⟨#[112, 114, 111, 98, 101, 32, 37, 107]⟩, ⟨#[115, 99, 97, 110, 32, 36, 97, 116, 116, 114, 123, 115, 105, 122, 101, 125]⟩, ⟨#[110, 111, 110, 101]⟩, ⟨#[115, 108, 111, 119, 32, 37, 98]⟩]
def tV13 : List ByteArray := [⟨#[111, 110, 101, 42]⟩, ⟨#[]⟩, ⟨#[63, 42]⟩]
def tI0 : List ByteArray := [⟨#[112, 114, 111, 98, 101, 32, 37, 107]⟩, ⟨#[101, 110, 118]⟩, ⟨#[110, 111, 110, 101]⟩]
def tI1 : List ByteArray := [⟨#[73, 68, 95, 42]⟩, ⟨#[42]⟩, ⟨#[73, 68, 95, 65]⟩]
def tI2 : List ByteArray := [⟨#[112, 97, 116, 104]⟩, ⟨#[99, 111, 110, 116, 101, 110, 116]⟩, ⟨#[110, 101, 116]⟩]

set_option maxRecDepth 100000 in
set_option maxHeartbeats 8000000 in
theorem mmatches_any (B g q0 : Nat) (w : World) (hT0 : Tape w B g q0) (hq0 : q0 ≤ 100000) :
    Calls Tryz.prog 48 #[.pointer (some ⟨g, 0, none⟩)] w fun e w' => ∃ (k : Int) (n : ByteArray) (o : Int) (v : ByteArray) (q : Nat), e = .returned (termV k n o v) ∧ (o = 1 ∨ o = 2) ∧ v.size ≤ 100 ∧ q ≤ q0 + 6 ∧ Tape w' B g q ∧ Only (fun j => j = g) w w' := by
  have hlt : g < w.heap.size := hT0.lt.2
  have hO : Hid (Only (fun j => j = g) w (w.alloc (.cells #[.int .i64 0, .string ⟨#[]⟩, .int .i64 0, .string ⟨#[]⟩] 46))) := (Only.refl _ _).alloc _
  have hT : Hid (Tape (w.alloc (.cells #[.int .i64 0, .string ⟨#[]⟩, .int .i64 0, .string ⟨#[]⟩] 46)) B g q0) := hT0.below ((Below.refl _ _).alloc (Nat.le_refl _) _)
  have hR : Hid (Blk (w.alloc (.cells #[.int .i64 0, .string ⟨#[]⟩, .int .i64 0, .string ⟨#[]⟩] 46)) w.heap.size 46 #[.int .i64 0, .string ⟨#[]⟩, .int .i64 0, .string ⟨#[]⟩]) := Blk.new _ _ _
  clear hT0
  unfold termV
  go_enter Tryz.func48, Tryz.ntmps48
  have hC := Lib.hid (next_any B g q0 4 _ hT.out (by omega) (by omega) (by omega))
  go_wp2_with fail
  refine hC.out.mono ?_
  rintro e x1 ⟨⟨r, hr, rfl⟩, hTx, hOx⟩
  have hT1 := Lib.hid hTx
  have hO1 := Lib.hid (hO.out.trans hOx)
  have hR1 := Lib.hid (hR.out.only hOx (by omega))
  clear hTx hOx hT hO hR hC
  by_cases r0 : r = 0
  · subst r0
    have hC := Lib.hid (next_any B g (q0 + 1) 16 _ hT1.out (by omega) (by omega) (by omega))
    go_wp2_with fail
    refine hC.out.mono ?_
    rintro e x2 ⟨⟨z, hz, rfl⟩, hTx, hOx⟩
    have hT2 := Lib.hid hTx
    have hO2 := Lib.hid (hO1.out.trans hOx)
    have hR2 := Lib.hid (hR1.out.only hOx (by omega))
    clear hTx hOx hT1 hO1 hR1 hC
    rcases (by omega : z = 0 ∨ z = 1 ∨ z = 2 ∨ z = 3 ∨ z = 4 ∨ z = 5 ∨ z = 6 ∨ z = 7 ∨ z = 8 ∨ z = 9 ∨ z = 10 ∨ z = 11 ∨ z = 12 ∨ z = 13 ∨ z = 14 ∨ z = 15) with rfl | rfl | rfl | rfl | rfl | rfl | rfl | rfl | rfl | rfl | rfl | rfl | rfl | rfl | rfl | rfl
    · have hC := Lib.hid (one_new B g (q0 + 2) 3 3 tV1 _ hT2.out (by omega) rfl (by omega) (by omega))
      go_wp2_with fail
      refine hC.out.mono ?_
      rintro e x3 ⟨⟨sv, hsv, rfl⟩, hTx, hOx⟩
      have hsv' := Lib.hid (sml_mem (L := tV1) rfl hsv)
      have hT3 := Lib.hid hTx
      have hO3 := Lib.hid (hO2.out.trans hOx)
      have hR3 := Lib.hid (hR2.out.only hOx (by omega))
      clear hTx hOx hsv hT2 hO2 hR2 hC
      have E := Lib.hid (term_out hR3.out hT3.out hO3.out (Nat.le_refl _) hlt (.int .i64 1) (.string ⟨#[]⟩) (.int .i64 2) (.string sv))
      have f0 := hR3.out.frozen 0
      have f1 := hR3.out.frozen 1
      have f2 := hR3.out.frozen 2
      have f3 := hR3.out.frozen 3
      have g0 := hR3.out.cell 0
      have g1 := hR3.out.cell 1
      have g2 := hR3.out.cell 2
      have g3 := hR3.out.cell 3
      simp only [List.getElem?_toArray, List.getElem?_cons_zero, List.getElem?_cons_succ] at g0 g1 g2 g3
      clear hR3 hT3 hO3
      go_wp2_with fail
      exact bodyPost_ret (results_cell_row rfl _ _ w.heap.size 46 _ (0, 0) _ rfl E.out.1 Tryz.underlying46 rfl (by kernel_rfl)) rfl ⟨1, ⟨#[]⟩, 2, sv, (q0 + 3), rfl, (by omega), hsv'.out, by omega, E.out.2.1, E.out.2.2⟩
    · have hC := Lib.hid (one_new B g (q0 + 2) 5 5 tV2 _ hT2.out (by omega) rfl (by omega) (by omega))
      go_wp2_with fail
      refine hC.out.mono ?_
      rintro e x3 ⟨⟨sv, hsv, rfl⟩, hTx, hOx⟩
      have hsv' := Lib.hid (sml_mem (L := tV2) rfl hsv)
      have hT3 := Lib.hid hTx
      have hO3 := Lib.hid (hO2.out.trans hOx)
      have hR3 := Lib.hid (hR2.out.only hOx (by omega))
      clear hTx hOx hsv hT2 hO2 hR2 hC
      have E := Lib.hid (term_out hR3.out hT3.out hO3.out (Nat.le_refl _) hlt (.int .i64 2) (.string ⟨#[]⟩) (.int .i64 2) (.string sv))
      have f0 := hR3.out.frozen 0
      have f1 := hR3.out.frozen 1
      have f2 := hR3.out.frozen 2
      have f3 := hR3.out.frozen 3
      have g0 := hR3.out.cell 0
      have g1 := hR3.out.cell 1
      have g2 := hR3.out.cell 2
      have g3 := hR3.out.cell 3
      simp only [List.getElem?_toArray, List.getElem?_cons_zero, List.getElem?_cons_succ] at g0 g1 g2 g3
      clear hR3 hT3 hO3
      go_wp2_with fail
      exact bodyPost_ret (results_cell_row rfl _ _ w.heap.size 46 _ (0, 0) _ rfl E.out.1 Tryz.underlying46 rfl (by kernel_rfl)) rfl ⟨2, ⟨#[]⟩, 2, sv, (q0 + 3), rfl, (by omega), hsv'.out, by omega, E.out.2.1, E.out.2.2⟩
    · have hC := Lib.hid (one_new B g (q0 + 2) 5 5 tV2 _ hT2.out (by omega) rfl (by omega) (by omega))
      go_wp2_with fail
      refine hC.out.mono ?_
      rintro e x3 ⟨⟨sv, hsv, rfl⟩, hTx, hOx⟩
      have hsv' := Lib.hid (sml_mem (L := tV2) rfl hsv)
      have hT3 := Lib.hid hTx
      have hO3 := Lib.hid (hO2.out.trans hOx)
      have hR3 := Lib.hid (hR2.out.only hOx (by omega))
      clear hTx hOx hsv hT2 hO2 hR2 hC
      have E := Lib.hid (term_out hR3.out hT3.out hO3.out (Nat.le_refl _) hlt (.int .i64 2) (.string ⟨#[]⟩) (.int .i64 2) (.string sv))
      have f0 := hR3.out.frozen 0
      have f1 := hR3.out.frozen 1
      have f2 := hR3.out.frozen 2
      have f3 := hR3.out.frozen 3
      have g0 := hR3.out.cell 0
      have g1 := hR3.out.cell 1
      have g2 := hR3.out.cell 2
      have g3 := hR3.out.cell 3
      simp only [List.getElem?_toArray, List.getElem?_cons_zero, List.getElem?_cons_succ] at g0 g1 g2 g3
      clear hR3 hT3 hO3
      go_wp2_with fail
      exact bodyPost_ret (results_cell_row rfl _ _ w.heap.size 46 _ (0, 0) _ rfl E.out.1 Tryz.underlying46 rfl (by kernel_rfl)) rfl ⟨2, ⟨#[]⟩, 2, sv, (q0 + 3), rfl, (by omega), hsv'.out, by omega, E.out.2.1, E.out.2.2⟩
    · have hC := Lib.hid (one_new B g (q0 + 2) 4 4 tV3 _ hT2.out (by omega) rfl (by omega) (by omega))
      go_wp2_with fail
      refine hC.out.mono ?_
      rintro e x3 ⟨⟨sv, hsv, rfl⟩, hTx, hOx⟩
      have hsv' := Lib.hid (sml_mem (L := tV3) rfl hsv)
      have hT3 := Lib.hid hTx
      have hO3 := Lib.hid (hO2.out.trans hOx)
      have hR3 := Lib.hid (hR2.out.only hOx (by omega))
      clear hTx hOx hsv hT2 hO2 hR2 hC
      have E := Lib.hid (term_out hR3.out hT3.out hO3.out (Nat.le_refl _) hlt (.int .i64 3) (.string ⟨#[]⟩) (.int .i64 2) (.string sv))
      have f0 := hR3.out.frozen 0
      have f1 := hR3.out.frozen 1
      have f2 := hR3.out.frozen 2
      have f3 := hR3.out.frozen 3
      have g0 := hR3.out.cell 0
      have g1 := hR3.out.cell 1
      have g2 := hR3.out.cell 2
      have g3 := hR3.out.cell 3
      simp only [List.getElem?_toArray, List.getElem?_cons_zero, List.getElem?_cons_succ] at g0 g1 g2 g3
      clear hR3 hT3 hO3
      go_wp2_with fail
      exact bodyPost_ret (results_cell_row rfl _ _ w.heap.size 46 _ (0, 0) _ rfl E.out.1 Tryz.underlying46 rfl (by kernel_rfl)) rfl ⟨3, ⟨#[]⟩, 2, sv, (q0 + 3), rfl, (by omega), hsv'.out, by omega, E.out.2.1, E.out.2.2⟩
    · have hC := Lib.hid (one_new B g (q0 + 2) 4 4 tV3 _ hT2.out (by omega) rfl (by omega) (by omega))
      go_wp2_with fail
      refine hC.out.mono ?_
      rintro e x3 ⟨⟨sv, hsv, rfl⟩, hTx, hOx⟩
      have hsv' := Lib.hid (sml_mem (L := tV3) rfl hsv)
      have hT3 := Lib.hid hTx
      have hO3 := Lib.hid (hO2.out.trans hOx)
      have hR3 := Lib.hid (hR2.out.only hOx (by omega))
      clear hTx hOx hsv hT2 hO2 hR2 hC
      have E := Lib.hid (term_out hR3.out hT3.out hO3.out (Nat.le_refl _) hlt (.int .i64 3) (.string ⟨#[]⟩) (.int .i64 2) (.string sv))
      have f0 := hR3.out.frozen 0
      have f1 := hR3.out.frozen 1
      have f2 := hR3.out.frozen 2
      have f3 := hR3.out.frozen 3
      have g0 := hR3.out.cell 0
      have g1 := hR3.out.cell 1
      have g2 := hR3.out.cell 2
      have g3 := hR3.out.cell 3
      simp only [List.getElem?_toArray, List.getElem?_cons_zero, List.getElem?_cons_succ] at g0 g1 g2 g3
      clear hR3 hT3 hO3
      go_wp2_with fail
      exact bodyPost_ret (results_cell_row rfl _ _ w.heap.size 46 _ (0, 0) _ rfl E.out.1 Tryz.underlying46 rfl (by kernel_rfl)) rfl ⟨3, ⟨#[]⟩, 2, sv, (q0 + 3), rfl, (by omega), hsv'.out, by omega, E.out.2.1, E.out.2.2⟩
    · have hC := Lib.hid (one_new B g (q0 + 2) 3 3 tV4 _ hT2.out (by omega) rfl (by omega) (by omega))
      go_wp2_with fail
      refine hC.out.mono ?_
      rintro e x3 ⟨⟨sv, hsv, rfl⟩, hTx, hOx⟩
      have hsv' := Lib.hid (sml_mem (L := tV4) rfl hsv)
      have hT3 := Lib.hid hTx
      have hO3 := Lib.hid (hO2.out.trans hOx)
      have hR3 := Lib.hid (hR2.out.only hOx (by omega))
      clear hTx hOx hsv hT2 hO2 hR2 hC
      have E := Lib.hid (term_out hR3.out hT3.out hO3.out (Nat.le_refl _) hlt (.int .i64 4) (.string ⟨#[]⟩) (.int .i64 2) (.string sv))
      have f0 := hR3.out.frozen 0
      have f1 := hR3.out.frozen 1
      have f2 := hR3.out.frozen 2
      have f3 := hR3.out.frozen 3
      have g0 := hR3.out.cell 0
      have g1 := hR3.out.cell 1
      have g2 := hR3.out.cell 2
      have g3 := hR3.out.cell 3
      simp only [List.getElem?_toArray, List.getElem?_cons_zero, List.getElem?_cons_succ] at g0 g1 g2 g3
      clear hR3 hT3 hO3
      go_wp2_with fail
      exact bodyPost_ret (results_cell_row rfl _ _ w.heap.size 46 _ (0, 0) _ rfl E.out.1 Tryz.underlying46 rfl (by kernel_rfl)) rfl ⟨4, ⟨#[]⟩, 2, sv, (q0 + 3), rfl, (by omega), hsv'.out, by omega, E.out.2.1, E.out.2.2⟩
    · have hC := Lib.hid (one_new B g (q0 + 2) 3 3 tN5 _ hT2.out (by omega) rfl (by omega) (by omega))
      go_wp2_with fail
      refine hC.out.mono ?_
      rintro e x3 ⟨⟨sn, hsn, rfl⟩, hTx, hOx⟩
      have hsn' := Lib.hid (sml_mem (L := tN5) rfl hsn)
      have hT3 := Lib.hid hTx
      have hO3 := Lib.hid (hO2.out.trans hOx)
      have hR3 := Lib.hid (hR2.out.only hOx (by omega))
      clear hTx hOx hsn hT2 hO2 hR2 hC
      have hC := Lib.hid (one_new B g (q0 + 3) 4 4 tV5 _ hT3.out (by omega) rfl (by omega) (by omega))
      go_wp2_with fail
      refine hC.out.mono ?_
      rintro e x4 ⟨⟨sv, hsv, rfl⟩, hTx, hOx⟩
      have hsv' := Lib.hid (sml_mem (L := tV5) rfl hsv)
      have hT4 := Lib.hid hTx
      have hO4 := Lib.hid (hO3.out.trans hOx)
      have hR4 := Lib.hid (hR3.out.only hOx (by omega))
      clear hTx hOx hsv hT3 hO3 hR3 hC
      have E := Lib.hid (term_out hR4.out hT4.out hO4.out (Nat.le_refl _) hlt (.int .i64 5) (.string sn) (.int .i64 2) (.string sv))
      have f0 := hR4.out.frozen 0
      have f1 := hR4.out.frozen 1
      have f2 := hR4.out.frozen 2
      have f3 := hR4.out.frozen 3
      have g0 := hR4.out.cell 0
      have g1 := hR4.out.cell 1
      have g2 := hR4.out.cell 2
      have g3 := hR4.out.cell 3
      simp only [List.getElem?_toArray, List.getElem?_cons_zero, List.getElem?_cons_succ] at g0 g1 g2 g3
      clear hR4 hT4 hO4
      go_wp2_with fail
      exact bodyPost_ret (results_cell_row rfl _ _ w.heap.size 46 _ (0, 0) _ rfl E.out.1 Tryz.underlying46 rfl (by kernel_rfl)) rfl ⟨5, sn, 2, sv, (q0 + 4), rfl, (by omega), hsv'.out, by omega, E.out.2.1, E.out.2.2⟩
    · have hC := Lib.hid (one_new B g (q0 + 2) 4 4 tN6 _ hT2.out (by omega) rfl (by omega) (by omega))
      go_wp2_with fail
      refine hC.out.mono ?_
      rintro e x3 ⟨⟨sn, hsn, rfl⟩, hTx, hOx⟩
      have hsn' := Lib.hid (sml_mem (L := tN6) rfl hsn)
      have hT3 := Lib.hid hTx
      have hO3 := Lib.hid (hO2.out.trans hOx)
      have hR3 := Lib.hid (hR2.out.only hOx (by omega))
      clear hTx hOx hsn hT2 hO2 hR2 hC
      have hC := Lib.hid (one_new B g (q0 + 3) 4 4 tV6 _ hT3.out (by omega) rfl (by omega) (by omega))
      go_wp2_with fail
      refine hC.out.mono ?_
      rintro e x4 ⟨⟨sv, hsv, rfl⟩, hTx, hOx⟩
      have hsv' := Lib.hid (sml_mem (L := tV6) rfl hsv)
      have hT4 := Lib.hid hTx
      have hO4 := Lib.hid (hO3.out.trans hOx)
      have hR4 := Lib.hid (hR3.out.only hOx (by omega))
      clear hTx hOx hsv hT3 hO3 hR3 hC
      have E := Lib.hid (term_out hR4.out hT4.out hO4.out (Nat.le_refl _) hlt (.int .i64 6) (.string sn) (.int .i64 2) (.string sv))
      have f0 := hR4.out.frozen 0
      have f1 := hR4.out.frozen 1
      have f2 := hR4.out.frozen 2
      have f3 := hR4.out.frozen 3
      have g0 := hR4.out.cell 0
      have g1 := hR4.out.cell 1
      have g2 := hR4.out.cell 2
      have g3 := hR4.out.cell 3
      simp only [List.getElem?_toArray, List.getElem?_cons_zero, List.getElem?_cons_succ] at g0 g1 g2 g3
      clear hR4 hT4 hO4
      go_wp2_with fail
      exact bodyPost_ret (results_cell_row rfl _ _ w.heap.size 46 _ (0, 0) _ rfl E.out.1 Tryz.underlying46 rfl (by kernel_rfl)) rfl ⟨6, sn, 2, sv, (q0 + 4), rfl, (by omega), hsv'.out, by omega, E.out.2.1, E.out.2.2⟩
    · have hC := Lib.hid (one_new B g (q0 + 2) 3 3 tV7 _ hT2.out (by omega) rfl (by omega) (by omega))
      go_wp2_with fail
      refine hC.out.mono ?_
      rintro e x3 ⟨⟨sv, hsv, rfl⟩, hTx, hOx⟩
      have hsv' := Lib.hid (sml_mem (L := tV7) rfl hsv)
      have hT3 := Lib.hid hTx
      have hO3 := Lib.hid (hO2.out.trans hOx)
      have hR3 := Lib.hid (hR2.out.only hOx (by omega))
      clear hTx hOx hsv hT2 hO2 hR2 hC
      have E := Lib.hid (term_out hR3.out hT3.out hO3.out (Nat.le_refl _) hlt (.int .i64 7) (.string ⟨#[]⟩) (.int .i64 2) (.string sv))
      have f0 := hR3.out.frozen 0
      have f1 := hR3.out.frozen 1
      have f2 := hR3.out.frozen 2
      have f3 := hR3.out.frozen 3
      have g0 := hR3.out.cell 0
      have g1 := hR3.out.cell 1
      have g2 := hR3.out.cell 2
      have g3 := hR3.out.cell 3
      simp only [List.getElem?_toArray, List.getElem?_cons_zero, List.getElem?_cons_succ] at g0 g1 g2 g3
      clear hR3 hT3 hO3
      go_wp2_with fail
      exact bodyPost_ret (results_cell_row rfl _ _ w.heap.size 46 _ (0, 0) _ rfl E.out.1 Tryz.underlying46 rfl (by kernel_rfl)) rfl ⟨7, ⟨#[]⟩, 2, sv, (q0 + 3), rfl, (by omega), hsv'.out, by omega, E.out.2.1, E.out.2.2⟩
    · have hC := Lib.hid (one_new B g (q0 + 2) 3 3 tV8 _ hT2.out (by omega) rfl (by omega) (by omega))
      go_wp2_with fail
      refine hC.out.mono ?_
      rintro e x3 ⟨⟨sv, hsv, rfl⟩, hTx, hOx⟩
      have hsv' := Lib.hid (sml_mem (L := tV8) rfl hsv)
      have hT3 := Lib.hid hTx
      have hO3 := Lib.hid (hO2.out.trans hOx)
      have hR3 := Lib.hid (hR2.out.only hOx (by omega))
      clear hTx hOx hsv hT2 hO2 hR2 hC
      have E := Lib.hid (term_out hR3.out hT3.out hO3.out (Nat.le_refl _) hlt (.int .i64 8) (.string ⟨#[]⟩) (.int .i64 2) (.string sv))
      have f0 := hR3.out.frozen 0
      have f1 := hR3.out.frozen 1
      have f2 := hR3.out.frozen 2
      have f3 := hR3.out.frozen 3
      have g0 := hR3.out.cell 0
      have g1 := hR3.out.cell 1
      have g2 := hR3.out.cell 2
      have g3 := hR3.out.cell 3
      simp only [List.getElem?_toArray, List.getElem?_cons_zero, List.getElem?_cons_succ] at g0 g1 g2 g3
      clear hR3 hT3 hO3
      go_wp2_with fail
      exact bodyPost_ret (results_cell_row rfl _ _ w.heap.size 46 _ (0, 0) _ rfl E.out.1 Tryz.underlying46 rfl (by kernel_rfl)) rfl ⟨8, ⟨#[]⟩, 2, sv, (q0 + 3), rfl, (by omega), hsv'.out, by omega, E.out.2.1, E.out.2.2⟩
    · have hC := Lib.hid (one_new B g (q0 + 2) 3 3 tV9 _ hT2.out (by omega) rfl (by omega) (by omega))
      go_wp2_with fail
      refine hC.out.mono ?_
      rintro e x3 ⟨⟨sv, hsv, rfl⟩, hTx, hOx⟩
      have hsv' := Lib.hid (sml_mem (L := tV9) rfl hsv)
      have hT3 := Lib.hid hTx
      have hO3 := Lib.hid (hO2.out.trans hOx)
      have hR3 := Lib.hid (hR2.out.only hOx (by omega))
      clear hTx hOx hsv hT2 hO2 hR2 hC
      have E := Lib.hid (term_out hR3.out hT3.out hO3.out (Nat.le_refl _) hlt (.int .i64 9) (.string ⟨#[]⟩) (.int .i64 2) (.string sv))
      have f0 := hR3.out.frozen 0
      have f1 := hR3.out.frozen 1
      have f2 := hR3.out.frozen 2
      have f3 := hR3.out.frozen 3
      have g0 := hR3.out.cell 0
      have g1 := hR3.out.cell 1
      have g2 := hR3.out.cell 2
      have g3 := hR3.out.cell 3
      simp only [List.getElem?_toArray, List.getElem?_cons_zero, List.getElem?_cons_succ] at g0 g1 g2 g3
      clear hR3 hT3 hO3
      go_wp2_with fail
      exact bodyPost_ret (results_cell_row rfl _ _ w.heap.size 46 _ (0, 0) _ rfl E.out.1 Tryz.underlying46 rfl (by kernel_rfl)) rfl ⟨9, ⟨#[]⟩, 2, sv, (q0 + 3), rfl, (by omega), hsv'.out, by omega, E.out.2.1, E.out.2.2⟩
    · have hC := Lib.hid (one_new B g (q0 + 2) 2 2 tV10 _ hT2.out (by omega) rfl (by omega) (by omega))
      go_wp2_with fail
      refine hC.out.mono ?_
      rintro e x3 ⟨⟨sv, hsv, rfl⟩, hTx, hOx⟩
      have hsv' := Lib.hid (sml_mem (L := tV10) rfl hsv)
      have hT3 := Lib.hid hTx
      have hO3 := Lib.hid (hO2.out.trans hOx)
      have hR3 := Lib.hid (hR2.out.only hOx (by omega))
      clear hTx hOx hsv hT2 hO2 hR2 hC
      have E := Lib.hid (term_out hR3.out hT3.out hO3.out (Nat.le_refl _) hlt (.int .i64 10) (.string ⟨#[]⟩) (.int .i64 2) (.string sv))
      have f0 := hR3.out.frozen 0
      have f1 := hR3.out.frozen 1
      have f2 := hR3.out.frozen 2
      have f3 := hR3.out.frozen 3
      have g0 := hR3.out.cell 0
      have g1 := hR3.out.cell 1
      have g2 := hR3.out.cell 2
      have g3 := hR3.out.cell 3
      simp only [List.getElem?_toArray, List.getElem?_cons_zero, List.getElem?_cons_succ] at g0 g1 g2 g3
      clear hR3 hT3 hO3
      go_wp2_with fail
      exact bodyPost_ret (results_cell_row rfl _ _ w.heap.size 46 _ (0, 0) _ rfl E.out.1 Tryz.underlying46 rfl (by kernel_rfl)) rfl ⟨10, ⟨#[]⟩, 2, sv, (q0 + 3), rfl, (by omega), hsv'.out, by omega, E.out.2.1, E.out.2.2⟩
    · have hC := Lib.hid (one_new B g (q0 + 2) 2 2 tN11 _ hT2.out (by omega) rfl (by omega) (by omega))
      go_wp2_with fail
      refine hC.out.mono ?_
      rintro e x3 ⟨⟨sn, hsn, rfl⟩, hTx, hOx⟩
      have hsn' := Lib.hid (sml_mem (L := tN11) rfl hsn)
      have hT3 := Lib.hid hTx
      have hO3 := Lib.hid (hO2.out.trans hOx)
      have hR3 := Lib.hid (hR2.out.only hOx (by omega))
      clear hTx hOx hsn hT2 hO2 hR2 hC
      have hC := Lib.hid (one_new B g (q0 + 3) 3 3 tV11 _ hT3.out (by omega) rfl (by omega) (by omega))
      go_wp2_with fail
      refine hC.out.mono ?_
      rintro e x4 ⟨⟨sv, hsv, rfl⟩, hTx, hOx⟩
      have hsv' := Lib.hid (sml_mem (L := tV11) rfl hsv)
      have hT4 := Lib.hid hTx
      have hO4 := Lib.hid (hO3.out.trans hOx)
      have hR4 := Lib.hid (hR3.out.only hOx (by omega))
      clear hTx hOx hsv hT3 hO3 hR3 hC
      have E := Lib.hid (term_out hR4.out hT4.out hO4.out (Nat.le_refl _) hlt (.int .i64 11) (.string sn) (.int .i64 2) (.string sv))
      have f0 := hR4.out.frozen 0
      have f1 := hR4.out.frozen 1
      have f2 := hR4.out.frozen 2
      have f3 := hR4.out.frozen 3
      have g0 := hR4.out.cell 0
      have g1 := hR4.out.cell 1
      have g2 := hR4.out.cell 2
      have g3 := hR4.out.cell 3
      simp only [List.getElem?_toArray, List.getElem?_cons_zero, List.getElem?_cons_succ] at g0 g1 g2 g3
      clear hR4 hT4 hO4
      go_wp2_with fail
      exact bodyPost_ret (results_cell_row rfl _ _ w.heap.size 46 _ (0, 0) _ rfl E.out.1 Tryz.underlying46 rfl (by kernel_rfl)) rfl ⟨11, sn, 2, sv, (q0 + 4), rfl, (by omega), hsv'.out, by omega, E.out.2.1, E.out.2.2⟩
    · have hC := Lib.hid (one_new B g (q0 + 2) 4 4 tV12 _ hT2.out (by omega) rfl (by omega) (by omega))
      go_wp2_with fail
      refine hC.out.mono ?_
      rintro e x3 ⟨⟨sv, hsv, rfl⟩, hTx, hOx⟩
      have hsv' := Lib.hid (sml_mem (L := tV12) rfl hsv)
      have hT3 := Lib.hid hTx
      have hO3 := Lib.hid (hO2.out.trans hOx)
      have hR3 := Lib.hid (hR2.out.only hOx (by omega))
      clear hTx hOx hsv hT2 hO2 hR2 hC
      have E := Lib.hid (term_out hR3.out hT3.out hO3.out (Nat.le_refl _) hlt (.int .i64 12) (.string ⟨#[]⟩) (.int .i64 2) (.string sv))
      have f0 := hR3.out.frozen 0
      have f1 := hR3.out.frozen 1
      have f2 := hR3.out.frozen 2
      have f3 := hR3.out.frozen 3
      have g0 := hR3.out.cell 0
      have g1 := hR3.out.cell 1
      have g2 := hR3.out.cell 2
      have g3 := hR3.out.cell 3
      simp only [List.getElem?_toArray, List.getElem?_cons_zero, List.getElem?_cons_succ] at g0 g1 g2 g3
      clear hR3 hT3 hO3
      go_wp2_with fail
      exact bodyPost_ret (results_cell_row rfl _ _ w.heap.size 46 _ (0, 0) _ rfl E.out.1 Tryz.underlying46 rfl (by kernel_rfl)) rfl ⟨12, ⟨#[]⟩, 2, sv, (q0 + 3), rfl, (by omega), hsv'.out, by omega, E.out.2.1, E.out.2.2⟩
    · have hC := Lib.hid (one_new B g (q0 + 2) 3 3 tV13 _ hT2.out (by omega) rfl (by omega) (by omega))
      go_wp2_with fail
      refine hC.out.mono ?_
      rintro e x3 ⟨⟨sv, hsv, rfl⟩, hTx, hOx⟩
      have hsv' := Lib.hid (sml_mem (L := tV13) rfl hsv)
      have hT3 := Lib.hid hTx
      have hO3 := Lib.hid (hO2.out.trans hOx)
      have hR3 := Lib.hid (hR2.out.only hOx (by omega))
      clear hTx hOx hsv hT2 hO2 hR2 hC
      have E := Lib.hid (term_out hR3.out hT3.out hO3.out (Nat.le_refl _) hlt (.int .i64 13) (.string ⟨#[]⟩) (.int .i64 2) (.string sv))
      have f0 := hR3.out.frozen 0
      have f1 := hR3.out.frozen 1
      have f2 := hR3.out.frozen 2
      have f3 := hR3.out.frozen 3
      have g0 := hR3.out.cell 0
      have g1 := hR3.out.cell 1
      have g2 := hR3.out.cell 2
      have g3 := hR3.out.cell 3
      simp only [List.getElem?_toArray, List.getElem?_cons_zero, List.getElem?_cons_succ] at g0 g1 g2 g3
      clear hR3 hT3 hO3
      go_wp2_with fail
      exact bodyPost_ret (results_cell_row rfl _ _ w.heap.size 46 _ (0, 0) _ rfl E.out.1 Tryz.underlying46 rfl (by kernel_rfl)) rfl ⟨13, ⟨#[]⟩, 2, sv, (q0 + 3), rfl, (by omega), hsv'.out, by omega, E.out.2.1, E.out.2.2⟩
    · have hC := Lib.hid (next_any B g (q0 + 2) 3 _ hT2.out (by omega) (by omega) (by omega))
      go_wp2_with fail
      refine hC.out.mono ?_
      rintro e x3 ⟨⟨y, hy, rfl⟩, hTx, hOx⟩
      have hT3 := Lib.hid hTx
      have hO3 := Lib.hid (hO2.out.trans hOx)
      have hR3 := Lib.hid (hR2.out.only hOx (by omega))
      clear hTx hOx hT2 hO2 hR2 hC
      rcases (by omega : y = 0 ∨ y = 1 ∨ y = 2) with rfl | rfl | rfl
      · have hC := Lib.hid (one_new B g (q0 + 3) 3 3 tI0 _ hT3.out (by omega) rfl (by omega) (by omega))
        go_wp2_with fail
        refine hC.out.mono ?_
        rintro e x4 ⟨⟨sv, hsv, rfl⟩, hTx, hOx⟩
        have hsv' := Lib.hid (sml_mem (L := tI0) rfl hsv)
        have hT4 := Lib.hid hTx
        have hO4 := Lib.hid (hO3.out.trans hOx)
        have hR4 := Lib.hid (hR3.out.only hOx (by omega))
        clear hTx hOx hsv hT3 hO3 hR3 hC
        have E := Lib.hid (term_out hR4.out hT4.out hO4.out (Nat.le_refl _) hlt (.int .i64 14) (.string ⟨#[112, 114, 111, 103, 114, 97, 109]⟩) (.int .i64 2) (.string sv))
        have f0 := hR4.out.frozen 0
        have f1 := hR4.out.frozen 1
        have f2 := hR4.out.frozen 2
        have f3 := hR4.out.frozen 3
        have g0 := hR4.out.cell 0
        have g1 := hR4.out.cell 1
        have g2 := hR4.out.cell 2
        have g3 := hR4.out.cell 3
        simp only [List.getElem?_toArray, List.getElem?_cons_zero, List.getElem?_cons_succ] at g0 g1 g2 g3
        clear hR4 hT4 hO4
        go_wp2_with fail
        exact bodyPost_ret (results_cell_row rfl _ _ w.heap.size 46 _ (0, 0) _ rfl E.out.1 Tryz.underlying46 rfl (by kernel_rfl)) rfl ⟨14, ⟨#[112, 114, 111, 103, 114, 97, 109]⟩, 2, sv, (q0 + 4), rfl, (by omega), hsv'.out, by omega, E.out.2.1, E.out.2.2⟩
      · have hC := Lib.hid (one_new B g (q0 + 3) 3 3 tI1 _ hT3.out (by omega) rfl (by omega) (by omega))
        go_wp2_with fail
        refine hC.out.mono ?_
        rintro e x4 ⟨⟨sv, hsv, rfl⟩, hTx, hOx⟩
        have hsv' := Lib.hid (sml_mem (L := tI1) rfl hsv)
        have hT4 := Lib.hid hTx
        have hO4 := Lib.hid (hO3.out.trans hOx)
        have hR4 := Lib.hid (hR3.out.only hOx (by omega))
        clear hTx hOx hsv hT3 hO3 hR3 hC
        have E := Lib.hid (term_out hR4.out hT4.out hO4.out (Nat.le_refl _) hlt (.int .i64 14) (.string ⟨#[112, 97, 114, 101, 110, 116]⟩) (.int .i64 2) (.string sv))
        have f0 := hR4.out.frozen 0
        have f1 := hR4.out.frozen 1
        have f2 := hR4.out.frozen 2
        have f3 := hR4.out.frozen 3
        have g0 := hR4.out.cell 0
        have g1 := hR4.out.cell 1
        have g2 := hR4.out.cell 2
        have g3 := hR4.out.cell 3
        simp only [List.getElem?_toArray, List.getElem?_cons_zero, List.getElem?_cons_succ] at g0 g1 g2 g3
        clear hR4 hT4 hO4
        go_wp2_with fail
        exact bodyPost_ret (results_cell_row rfl _ _ w.heap.size 46 _ (0, 0) _ rfl E.out.1 Tryz.underlying46 rfl (by kernel_rfl)) rfl ⟨14, ⟨#[112, 97, 114, 101, 110, 116]⟩, 2, sv, (q0 + 4), rfl, (by omega), hsv'.out, by omega, E.out.2.1, E.out.2.2⟩
      · have hC := Lib.hid (one_new B g (q0 + 3) 3 3 tI2 _ hT3.out (by omega) rfl (by omega) (by omega))
        go_wp2_with fail
        refine hC.out.mono ?_
        rintro e x4 ⟨⟨sv, hsv, rfl⟩, hTx, hOx⟩
        have hsv' := Lib.hid (sml_mem (L := tI2) rfl hsv)
        have hT4 := Lib.hid hTx
        have hO4 := Lib.hid (hO3.out.trans hOx)
        have hR4 := Lib.hid (hR3.out.only hOx (by omega))
        clear hTx hOx hsv hT3 hO3 hR3 hC
        have E := Lib.hid (term_out hR4.out hT4.out hO4.out (Nat.le_refl _) hlt (.int .i64 14) (.string ⟨#[98, 117, 105, 108, 116, 105, 110]⟩) (.int .i64 2) (.string sv))
        have f0 := hR4.out.frozen 0
        have f1 := hR4.out.frozen 1
        have f2 := hR4.out.frozen 2
        have f3 := hR4.out.frozen 3
        have g0 := hR4.out.cell 0
        have g1 := hR4.out.cell 1
        have g2 := hR4.out.cell 2
        have g3 := hR4.out.cell 3
        simp only [List.getElem?_toArray, List.getElem?_cons_zero, List.getElem?_cons_succ] at g0 g1 g2 g3
        clear hR4 hT4 hO4
        go_wp2_with fail
        exact bodyPost_ret (results_cell_row rfl _ _ w.heap.size 46 _ (0, 0) _ rfl E.out.1 Tryz.underlying46 rfl (by kernel_rfl)) rfl ⟨14, ⟨#[98, 117, 105, 108, 116, 105, 110]⟩, 2, sv, (q0 + 4), rfl, (by omega), hsv'.out, by omega, E.out.2.1, E.out.2.2⟩
  · have r0' : ¬ (r : Int) = 0 := by omega
    have hC := Lib.hid (next_any B g (q0 + 1) 16 _ hT1.out (by omega) (by omega) (by omega))
    go_wp2_with fail
    refine hC.out.mono ?_
    rintro e x2 ⟨⟨z, hz, rfl⟩, hTx, hOx⟩
    have hT2 := Lib.hid hTx
    have hO2 := Lib.hid (hO1.out.trans hOx)
    have hR2 := Lib.hid (hR1.out.only hOx (by omega))
    clear hTx hOx hT1 hO1 hR1 hC
    rcases (by omega : z = 0 ∨ z = 1 ∨ z = 2 ∨ z = 3 ∨ z = 4 ∨ z = 5 ∨ z = 6 ∨ z = 7 ∨ z = 8 ∨ z = 9 ∨ z = 10 ∨ z = 11 ∨ z = 12 ∨ z = 13 ∨ z = 14 ∨ z = 15) with rfl | rfl | rfl | rfl | rfl | rfl | rfl | rfl | rfl | rfl | rfl | rfl | rfl | rfl | rfl | rfl
    · have hC := Lib.hid (one_new B g (q0 + 2) 3 3 tV1 _ hT2.out (by omega) rfl (by omega) (by omega))
      go_wp2_with fail
      refine hC.out.mono ?_
      rintro e x3 ⟨⟨sv, hsv, rfl⟩, hTx, hOx⟩
      have hsv' := Lib.hid (sml_mem (L := tV1) rfl hsv)
      have hT3 := Lib.hid hTx
      have hO3 := Lib.hid (hO2.out.trans hOx)
      have hR3 := Lib.hid (hR2.out.only hOx (by omega))
      clear hTx hOx hsv hT2 hO2 hR2 hC
      have E := Lib.hid (term_out hR3.out hT3.out hO3.out (Nat.le_refl _) hlt (.int .i64 1) (.string ⟨#[]⟩) (.int .i64 1) (.string sv))
      have f0 := hR3.out.frozen 0
      have f1 := hR3.out.frozen 1
      have f2 := hR3.out.frozen 2
      have f3 := hR3.out.frozen 3
      have g0 := hR3.out.cell 0
      have g1 := hR3.out.cell 1
      have g2 := hR3.out.cell 2
      have g3 := hR3.out.cell 3
      simp only [List.getElem?_toArray, List.getElem?_cons_zero, List.getElem?_cons_succ] at g0 g1 g2 g3
      clear hR3 hT3 hO3
      go_wp2_with fail
      exact bodyPost_ret (results_cell_row rfl _ _ w.heap.size 46 _ (0, 0) _ rfl E.out.1 Tryz.underlying46 rfl (by kernel_rfl)) rfl ⟨1, ⟨#[]⟩, 1, sv, (q0 + 3), rfl, (by omega), hsv'.out, by omega, E.out.2.1, E.out.2.2⟩
    · have hC := Lib.hid (one_new B g (q0 + 2) 5 5 tV2 _ hT2.out (by omega) rfl (by omega) (by omega))
      go_wp2_with fail
      refine hC.out.mono ?_
      rintro e x3 ⟨⟨sv, hsv, rfl⟩, hTx, hOx⟩
      have hsv' := Lib.hid (sml_mem (L := tV2) rfl hsv)
      have hT3 := Lib.hid hTx
      have hO3 := Lib.hid (hO2.out.trans hOx)
      have hR3 := Lib.hid (hR2.out.only hOx (by omega))
      clear hTx hOx hsv hT2 hO2 hR2 hC
      have E := Lib.hid (term_out hR3.out hT3.out hO3.out (Nat.le_refl _) hlt (.int .i64 2) (.string ⟨#[]⟩) (.int .i64 1) (.string sv))
      have f0 := hR3.out.frozen 0
      have f1 := hR3.out.frozen 1
      have f2 := hR3.out.frozen 2
      have f3 := hR3.out.frozen 3
      have g0 := hR3.out.cell 0
      have g1 := hR3.out.cell 1
      have g2 := hR3.out.cell 2
      have g3 := hR3.out.cell 3
      simp only [List.getElem?_toArray, List.getElem?_cons_zero, List.getElem?_cons_succ] at g0 g1 g2 g3
      clear hR3 hT3 hO3
      go_wp2_with fail
      exact bodyPost_ret (results_cell_row rfl _ _ w.heap.size 46 _ (0, 0) _ rfl E.out.1 Tryz.underlying46 rfl (by kernel_rfl)) rfl ⟨2, ⟨#[]⟩, 1, sv, (q0 + 3), rfl, (by omega), hsv'.out, by omega, E.out.2.1, E.out.2.2⟩
    · have hC := Lib.hid (one_new B g (q0 + 2) 5 5 tV2 _ hT2.out (by omega) rfl (by omega) (by omega))
      go_wp2_with fail
      refine hC.out.mono ?_
      rintro e x3 ⟨⟨sv, hsv, rfl⟩, hTx, hOx⟩
      have hsv' := Lib.hid (sml_mem (L := tV2) rfl hsv)
      have hT3 := Lib.hid hTx
      have hO3 := Lib.hid (hO2.out.trans hOx)
      have hR3 := Lib.hid (hR2.out.only hOx (by omega))
      clear hTx hOx hsv hT2 hO2 hR2 hC
      have E := Lib.hid (term_out hR3.out hT3.out hO3.out (Nat.le_refl _) hlt (.int .i64 2) (.string ⟨#[]⟩) (.int .i64 1) (.string sv))
      have f0 := hR3.out.frozen 0
      have f1 := hR3.out.frozen 1
      have f2 := hR3.out.frozen 2
      have f3 := hR3.out.frozen 3
      have g0 := hR3.out.cell 0
      have g1 := hR3.out.cell 1
      have g2 := hR3.out.cell 2
      have g3 := hR3.out.cell 3
      simp only [List.getElem?_toArray, List.getElem?_cons_zero, List.getElem?_cons_succ] at g0 g1 g2 g3
      clear hR3 hT3 hO3
      go_wp2_with fail
      exact bodyPost_ret (results_cell_row rfl _ _ w.heap.size 46 _ (0, 0) _ rfl E.out.1 Tryz.underlying46 rfl (by kernel_rfl)) rfl ⟨2, ⟨#[]⟩, 1, sv, (q0 + 3), rfl, (by omega), hsv'.out, by omega, E.out.2.1, E.out.2.2⟩
    · have hC := Lib.hid (one_new B g (q0 + 2) 4 4 tV3 _ hT2.out (by omega) rfl (by omega) (by omega))
      go_wp2_with fail
      refine hC.out.mono ?_
      rintro e x3 ⟨⟨sv, hsv, rfl⟩, hTx, hOx⟩
      have hsv' := Lib.hid (sml_mem (L := tV3) rfl hsv)
      have hT3 := Lib.hid hTx
      have hO3 := Lib.hid (hO2.out.trans hOx)
      have hR3 := Lib.hid (hR2.out.only hOx (by omega))
      clear hTx hOx hsv hT2 hO2 hR2 hC
      have E := Lib.hid (term_out hR3.out hT3.out hO3.out (Nat.le_refl _) hlt (.int .i64 3) (.string ⟨#[]⟩) (.int .i64 1) (.string sv))
      have f0 := hR3.out.frozen 0
      have f1 := hR3.out.frozen 1
      have f2 := hR3.out.frozen 2
      have f3 := hR3.out.frozen 3
      have g0 := hR3.out.cell 0
      have g1 := hR3.out.cell 1
      have g2 := hR3.out.cell 2
      have g3 := hR3.out.cell 3
      simp only [List.getElem?_toArray, List.getElem?_cons_zero, List.getElem?_cons_succ] at g0 g1 g2 g3
      clear hR3 hT3 hO3
      go_wp2_with fail
      exact bodyPost_ret (results_cell_row rfl _ _ w.heap.size 46 _ (0, 0) _ rfl E.out.1 Tryz.underlying46 rfl (by kernel_rfl)) rfl ⟨3, ⟨#[]⟩, 1, sv, (q0 + 3), rfl, (by omega), hsv'.out, by omega, E.out.2.1, E.out.2.2⟩
    · have hC := Lib.hid (one_new B g (q0 + 2) 4 4 tV3 _ hT2.out (by omega) rfl (by omega) (by omega))
      go_wp2_with fail
      refine hC.out.mono ?_
      rintro e x3 ⟨⟨sv, hsv, rfl⟩, hTx, hOx⟩
      have hsv' := Lib.hid (sml_mem (L := tV3) rfl hsv)
      have hT3 := Lib.hid hTx
      have hO3 := Lib.hid (hO2.out.trans hOx)
      have hR3 := Lib.hid (hR2.out.only hOx (by omega))
      clear hTx hOx hsv hT2 hO2 hR2 hC
      have E := Lib.hid (term_out hR3.out hT3.out hO3.out (Nat.le_refl _) hlt (.int .i64 3) (.string ⟨#[]⟩) (.int .i64 1) (.string sv))
      have f0 := hR3.out.frozen 0
      have f1 := hR3.out.frozen 1
      have f2 := hR3.out.frozen 2
      have f3 := hR3.out.frozen 3
      have g0 := hR3.out.cell 0
      have g1 := hR3.out.cell 1
      have g2 := hR3.out.cell 2
      have g3 := hR3.out.cell 3
      simp only [List.getElem?_toArray, List.getElem?_cons_zero, List.getElem?_cons_succ] at g0 g1 g2 g3
      clear hR3 hT3 hO3
      go_wp2_with fail
      exact bodyPost_ret (results_cell_row rfl _ _ w.heap.size 46 _ (0, 0) _ rfl E.out.1 Tryz.underlying46 rfl (by kernel_rfl)) rfl ⟨3, ⟨#[]⟩, 1, sv, (q0 + 3), rfl, (by omega), hsv'.out, by omega, E.out.2.1, E.out.2.2⟩
    · have hC := Lib.hid (one_new B g (q0 + 2) 3 3 tV4 _ hT2.out (by omega) rfl (by omega) (by omega))
      go_wp2_with fail
      refine hC.out.mono ?_
      rintro e x3 ⟨⟨sv, hsv, rfl⟩, hTx, hOx⟩
      have hsv' := Lib.hid (sml_mem (L := tV4) rfl hsv)
      have hT3 := Lib.hid hTx
      have hO3 := Lib.hid (hO2.out.trans hOx)
      have hR3 := Lib.hid (hR2.out.only hOx (by omega))
      clear hTx hOx hsv hT2 hO2 hR2 hC
      have E := Lib.hid (term_out hR3.out hT3.out hO3.out (Nat.le_refl _) hlt (.int .i64 4) (.string ⟨#[]⟩) (.int .i64 1) (.string sv))
      have f0 := hR3.out.frozen 0
      have f1 := hR3.out.frozen 1
      have f2 := hR3.out.frozen 2
      have f3 := hR3.out.frozen 3
      have g0 := hR3.out.cell 0
      have g1 := hR3.out.cell 1
      have g2 := hR3.out.cell 2
      have g3 := hR3.out.cell 3
      simp only [List.getElem?_toArray, List.getElem?_cons_zero, List.getElem?_cons_succ] at g0 g1 g2 g3
      clear hR3 hT3 hO3
      go_wp2_with fail
      exact bodyPost_ret (results_cell_row rfl _ _ w.heap.size 46 _ (0, 0) _ rfl E.out.1 Tryz.underlying46 rfl (by kernel_rfl)) rfl ⟨4, ⟨#[]⟩, 1, sv, (q0 + 3), rfl, (by omega), hsv'.out, by omega, E.out.2.1, E.out.2.2⟩
    · have hC := Lib.hid (one_new B g (q0 + 2) 3 3 tN5 _ hT2.out (by omega) rfl (by omega) (by omega))
      go_wp2_with fail
      refine hC.out.mono ?_
      rintro e x3 ⟨⟨sn, hsn, rfl⟩, hTx, hOx⟩
      have hsn' := Lib.hid (sml_mem (L := tN5) rfl hsn)
      have hT3 := Lib.hid hTx
      have hO3 := Lib.hid (hO2.out.trans hOx)
      have hR3 := Lib.hid (hR2.out.only hOx (by omega))
      clear hTx hOx hsn hT2 hO2 hR2 hC
      have hC := Lib.hid (one_new B g (q0 + 3) 4 4 tV5 _ hT3.out (by omega) rfl (by omega) (by omega))
      go_wp2_with fail
      refine hC.out.mono ?_
      rintro e x4 ⟨⟨sv, hsv, rfl⟩, hTx, hOx⟩
      have hsv' := Lib.hid (sml_mem (L := tV5) rfl hsv)
      have hT4 := Lib.hid hTx
      have hO4 := Lib.hid (hO3.out.trans hOx)
      have hR4 := Lib.hid (hR3.out.only hOx (by omega))
      clear hTx hOx hsv hT3 hO3 hR3 hC
      have E := Lib.hid (term_out hR4.out hT4.out hO4.out (Nat.le_refl _) hlt (.int .i64 5) (.string sn) (.int .i64 1) (.string sv))
      have f0 := hR4.out.frozen 0
      have f1 := hR4.out.frozen 1
      have f2 := hR4.out.frozen 2
      have f3 := hR4.out.frozen 3
      have g0 := hR4.out.cell 0
      have g1 := hR4.out.cell 1
      have g2 := hR4.out.cell 2
      have g3 := hR4.out.cell 3
      simp only [List.getElem?_toArray, List.getElem?_cons_zero, List.getElem?_cons_succ] at g0 g1 g2 g3
      clear hR4 hT4 hO4
      go_wp2_with fail
      exact bodyPost_ret (results_cell_row rfl _ _ w.heap.size 46 _ (0, 0) _ rfl E.out.1 Tryz.underlying46 rfl (by kernel_rfl)) rfl ⟨5, sn, 1, sv, (q0 + 4), rfl, (by omega), hsv'.out, by omega, E.out.2.1, E.out.2.2⟩
    · have hC := Lib.hid (one_new B g (q0 + 2) 4 4 tN6 _ hT2.out (by omega) rfl (by omega) (by omega))
      go_wp2_with fail
      refine hC.out.mono ?_
      rintro e x3 ⟨⟨sn, hsn, rfl⟩, hTx, hOx⟩
      have hsn' := Lib.hid (sml_mem (L := tN6) rfl hsn)
      have hT3 := Lib.hid hTx
      have hO3 := Lib.hid (hO2.out.trans hOx)
      have hR3 := Lib.hid (hR2.out.only hOx (by omega))
      clear hTx hOx hsn hT2 hO2 hR2 hC
      have hC := Lib.hid (one_new B g (q0 + 3) 4 4 tV6 _ hT3.out (by omega) rfl (by omega) (by omega))
      go_wp2_with fail
      refine hC.out.mono ?_
      rintro e x4 ⟨⟨sv, hsv, rfl⟩, hTx, hOx⟩
      have hsv' := Lib.hid (sml_mem (L := tV6) rfl hsv)
      have hT4 := Lib.hid hTx
      have hO4 := Lib.hid (hO3.out.trans hOx)
      have hR4 := Lib.hid (hR3.out.only hOx (by omega))
      clear hTx hOx hsv hT3 hO3 hR3 hC
      have E := Lib.hid (term_out hR4.out hT4.out hO4.out (Nat.le_refl _) hlt (.int .i64 6) (.string sn) (.int .i64 1) (.string sv))
      have f0 := hR4.out.frozen 0
      have f1 := hR4.out.frozen 1
      have f2 := hR4.out.frozen 2
      have f3 := hR4.out.frozen 3
      have g0 := hR4.out.cell 0
      have g1 := hR4.out.cell 1
      have g2 := hR4.out.cell 2
      have g3 := hR4.out.cell 3
      simp only [List.getElem?_toArray, List.getElem?_cons_zero, List.getElem?_cons_succ] at g0 g1 g2 g3
      clear hR4 hT4 hO4
      go_wp2_with fail
      exact bodyPost_ret (results_cell_row rfl _ _ w.heap.size 46 _ (0, 0) _ rfl E.out.1 Tryz.underlying46 rfl (by kernel_rfl)) rfl ⟨6, sn, 1, sv, (q0 + 4), rfl, (by omega), hsv'.out, by omega, E.out.2.1, E.out.2.2⟩
    · have hC := Lib.hid (one_new B g (q0 + 2) 3 3 tV7 _ hT2.out (by omega) rfl (by omega) (by omega))
      go_wp2_with fail
      refine hC.out.mono ?_
      rintro e x3 ⟨⟨sv, hsv, rfl⟩, hTx, hOx⟩
      have hsv' := Lib.hid (sml_mem (L := tV7) rfl hsv)
      have hT3 := Lib.hid hTx
      have hO3 := Lib.hid (hO2.out.trans hOx)
      have hR3 := Lib.hid (hR2.out.only hOx (by omega))
      clear hTx hOx hsv hT2 hO2 hR2 hC
      have E := Lib.hid (term_out hR3.out hT3.out hO3.out (Nat.le_refl _) hlt (.int .i64 7) (.string ⟨#[]⟩) (.int .i64 1) (.string sv))
      have f0 := hR3.out.frozen 0
      have f1 := hR3.out.frozen 1
      have f2 := hR3.out.frozen 2
      have f3 := hR3.out.frozen 3
      have g0 := hR3.out.cell 0
      have g1 := hR3.out.cell 1
      have g2 := hR3.out.cell 2
      have g3 := hR3.out.cell 3
      simp only [List.getElem?_toArray, List.getElem?_cons_zero, List.getElem?_cons_succ] at g0 g1 g2 g3
      clear hR3 hT3 hO3
      go_wp2_with fail
      exact bodyPost_ret (results_cell_row rfl _ _ w.heap.size 46 _ (0, 0) _ rfl E.out.1 Tryz.underlying46 rfl (by kernel_rfl)) rfl ⟨7, ⟨#[]⟩, 1, sv, (q0 + 3), rfl, (by omega), hsv'.out, by omega, E.out.2.1, E.out.2.2⟩
    · have hC := Lib.hid (one_new B g (q0 + 2) 3 3 tV8 _ hT2.out (by omega) rfl (by omega) (by omega))
      go_wp2_with fail
      refine hC.out.mono ?_
      rintro e x3 ⟨⟨sv, hsv, rfl⟩, hTx, hOx⟩
      have hsv' := Lib.hid (sml_mem (L := tV8) rfl hsv)
      have hT3 := Lib.hid hTx
      have hO3 := Lib.hid (hO2.out.trans hOx)
      have hR3 := Lib.hid (hR2.out.only hOx (by omega))
      clear hTx hOx hsv hT2 hO2 hR2 hC
      have E := Lib.hid (term_out hR3.out hT3.out hO3.out (Nat.le_refl _) hlt (.int .i64 8) (.string ⟨#[]⟩) (.int .i64 1) (.string sv))
      have f0 := hR3.out.frozen 0
      have f1 := hR3.out.frozen 1
      have f2 := hR3.out.frozen 2
      have f3 := hR3.out.frozen 3
      have g0 := hR3.out.cell 0
      have g1 := hR3.out.cell 1
      have g2 := hR3.out.cell 2
      have g3 := hR3.out.cell 3
      simp only [List.getElem?_toArray, List.getElem?_cons_zero, List.getElem?_cons_succ] at g0 g1 g2 g3
      clear hR3 hT3 hO3
      go_wp2_with fail
      exact bodyPost_ret (results_cell_row rfl _ _ w.heap.size 46 _ (0, 0) _ rfl E.out.1 Tryz.underlying46 rfl (by kernel_rfl)) rfl ⟨8, ⟨#[]⟩, 1, sv, (q0 + 3), rfl, (by omega), hsv'.out, by omega, E.out.2.1, E.out.2.2⟩
    · have hC := Lib.hid (one_new B g (q0 + 2) 3 3 tV9 _ hT2.out (by omega) rfl (by omega) (by omega))
      go_wp2_with fail
      refine hC.out.mono ?_
      rintro e x3 ⟨⟨sv, hsv, rfl⟩, hTx, hOx⟩
      have hsv' := Lib.hid (sml_mem (L := tV9) rfl hsv)
      have hT3 := Lib.hid hTx
      have hO3 := Lib.hid (hO2.out.trans hOx)
      have hR3 := Lib.hid (hR2.out.only hOx (by omega))
      clear hTx hOx hsv hT2 hO2 hR2 hC
      have E := Lib.hid (term_out hR3.out hT3.out hO3.out (Nat.le_refl _) hlt (.int .i64 9) (.string ⟨#[]⟩) (.int .i64 1) (.string sv))
      have f0 := hR3.out.frozen 0
      have f1 := hR3.out.frozen 1
      have f2 := hR3.out.frozen 2
      have f3 := hR3.out.frozen 3
      have g0 := hR3.out.cell 0
      have g1 := hR3.out.cell 1
      have g2 := hR3.out.cell 2
      have g3 := hR3.out.cell 3
      simp only [List.getElem?_toArray, List.getElem?_cons_zero, List.getElem?_cons_succ] at g0 g1 g2 g3
      clear hR3 hT3 hO3
      go_wp2_with fail
      exact bodyPost_ret (results_cell_row rfl _ _ w.heap.size 46 _ (0, 0) _ rfl E.out.1 Tryz.underlying46 rfl (by kernel_rfl)) rfl ⟨9, ⟨#[]⟩, 1, sv, (q0 + 3), rfl, (by omega), hsv'.out, by omega, E.out.2.1, E.out.2.2⟩
    · have hC := Lib.hid (one_new B g (q0 + 2) 2 2 tV10 _ hT2.out (by omega) rfl (by omega) (by omega))
      go_wp2_with fail
      refine hC.out.mono ?_
      rintro e x3 ⟨⟨sv, hsv, rfl⟩, hTx, hOx⟩
      have hsv' := Lib.hid (sml_mem (L := tV10) rfl hsv)
      have hT3 := Lib.hid hTx
      have hO3 := Lib.hid (hO2.out.trans hOx)
      have hR3 := Lib.hid (hR2.out.only hOx (by omega))
      clear hTx hOx hsv hT2 hO2 hR2 hC
      have E := Lib.hid (term_out hR3.out hT3.out hO3.out (Nat.le_refl _) hlt (.int .i64 10) (.string ⟨#[]⟩) (.int .i64 1) (.string sv))
      have f0 := hR3.out.frozen 0
      have f1 := hR3.out.frozen 1
      have f2 := hR3.out.frozen 2
      have f3 := hR3.out.frozen 3
      have g0 := hR3.out.cell 0
      have g1 := hR3.out.cell 1
      have g2 := hR3.out.cell 2
      have g3 := hR3.out.cell 3
      simp only [List.getElem?_toArray, List.getElem?_cons_zero, List.getElem?_cons_succ] at g0 g1 g2 g3
      clear hR3 hT3 hO3
      go_wp2_with fail
      exact bodyPost_ret (results_cell_row rfl _ _ w.heap.size 46 _ (0, 0) _ rfl E.out.1 Tryz.underlying46 rfl (by kernel_rfl)) rfl ⟨10, ⟨#[]⟩, 1, sv, (q0 + 3), rfl, (by omega), hsv'.out, by omega, E.out.2.1, E.out.2.2⟩
    · have hC := Lib.hid (one_new B g (q0 + 2) 2 2 tN11 _ hT2.out (by omega) rfl (by omega) (by omega))
      go_wp2_with fail
      refine hC.out.mono ?_
      rintro e x3 ⟨⟨sn, hsn, rfl⟩, hTx, hOx⟩
      have hsn' := Lib.hid (sml_mem (L := tN11) rfl hsn)
      have hT3 := Lib.hid hTx
      have hO3 := Lib.hid (hO2.out.trans hOx)
      have hR3 := Lib.hid (hR2.out.only hOx (by omega))
      clear hTx hOx hsn hT2 hO2 hR2 hC
      have hC := Lib.hid (one_new B g (q0 + 3) 3 3 tV11 _ hT3.out (by omega) rfl (by omega) (by omega))
      go_wp2_with fail
      refine hC.out.mono ?_
      rintro e x4 ⟨⟨sv, hsv, rfl⟩, hTx, hOx⟩
      have hsv' := Lib.hid (sml_mem (L := tV11) rfl hsv)
      have hT4 := Lib.hid hTx
      have hO4 := Lib.hid (hO3.out.trans hOx)
      have hR4 := Lib.hid (hR3.out.only hOx (by omega))
      clear hTx hOx hsv hT3 hO3 hR3 hC
      have E := Lib.hid (term_out hR4.out hT4.out hO4.out (Nat.le_refl _) hlt (.int .i64 11) (.string sn) (.int .i64 1) (.string sv))
      have f0 := hR4.out.frozen 0
      have f1 := hR4.out.frozen 1
      have f2 := hR4.out.frozen 2
      have f3 := hR4.out.frozen 3
      have g0 := hR4.out.cell 0
      have g1 := hR4.out.cell 1
      have g2 := hR4.out.cell 2
      have g3 := hR4.out.cell 3
      simp only [List.getElem?_toArray, List.getElem?_cons_zero, List.getElem?_cons_succ] at g0 g1 g2 g3
      clear hR4 hT4 hO4
      go_wp2_with fail
      exact bodyPost_ret (results_cell_row rfl _ _ w.heap.size 46 _ (0, 0) _ rfl E.out.1 Tryz.underlying46 rfl (by kernel_rfl)) rfl ⟨11, sn, 1, sv, (q0 + 4), rfl, (by omega), hsv'.out, by omega, E.out.2.1, E.out.2.2⟩
    · have hC := Lib.hid (one_new B g (q0 + 2) 4 4 tV12 _ hT2.out (by omega) rfl (by omega) (by omega))
      go_wp2_with fail
      refine hC.out.mono ?_
      rintro e x3 ⟨⟨sv, hsv, rfl⟩, hTx, hOx⟩
      have hsv' := Lib.hid (sml_mem (L := tV12) rfl hsv)
      have hT3 := Lib.hid hTx
      have hO3 := Lib.hid (hO2.out.trans hOx)
      have hR3 := Lib.hid (hR2.out.only hOx (by omega))
      clear hTx hOx hsv hT2 hO2 hR2 hC
      have E := Lib.hid (term_out hR3.out hT3.out hO3.out (Nat.le_refl _) hlt (.int .i64 12) (.string ⟨#[]⟩) (.int .i64 1) (.string sv))
      have f0 := hR3.out.frozen 0
      have f1 := hR3.out.frozen 1
      have f2 := hR3.out.frozen 2
      have f3 := hR3.out.frozen 3
      have g0 := hR3.out.cell 0
      have g1 := hR3.out.cell 1
      have g2 := hR3.out.cell 2
      have g3 := hR3.out.cell 3
      simp only [List.getElem?_toArray, List.getElem?_cons_zero, List.getElem?_cons_succ] at g0 g1 g2 g3
      clear hR3 hT3 hO3
      go_wp2_with fail
      exact bodyPost_ret (results_cell_row rfl _ _ w.heap.size 46 _ (0, 0) _ rfl E.out.1 Tryz.underlying46 rfl (by kernel_rfl)) rfl ⟨12, ⟨#[]⟩, 1, sv, (q0 + 3), rfl, (by omega), hsv'.out, by omega, E.out.2.1, E.out.2.2⟩
    · have hC := Lib.hid (one_new B g (q0 + 2) 3 3 tV13 _ hT2.out (by omega) rfl (by omega) (by omega))
      go_wp2_with fail
      refine hC.out.mono ?_
      rintro e x3 ⟨⟨sv, hsv, rfl⟩, hTx, hOx⟩
      have hsv' := Lib.hid (sml_mem (L := tV13) rfl hsv)
      have hT3 := Lib.hid hTx
      have hO3 := Lib.hid (hO2.out.trans hOx)
      have hR3 := Lib.hid (hR2.out.only hOx (by omega))
      clear hTx hOx hsv hT2 hO2 hR2 hC
      have E := Lib.hid (term_out hR3.out hT3.out hO3.out (Nat.le_refl _) hlt (.int .i64 13) (.string ⟨#[]⟩) (.int .i64 1) (.string sv))
      have f0 := hR3.out.frozen 0
      have f1 := hR3.out.frozen 1
      have f2 := hR3.out.frozen 2
      have f3 := hR3.out.frozen 3
      have g0 := hR3.out.cell 0
      have g1 := hR3.out.cell 1
      have g2 := hR3.out.cell 2
      have g3 := hR3.out.cell 3
      simp only [List.getElem?_toArray, List.getElem?_cons_zero, List.getElem?_cons_succ] at g0 g1 g2 g3
      clear hR3 hT3 hO3
      go_wp2_with fail
      exact bodyPost_ret (results_cell_row rfl _ _ w.heap.size 46 _ (0, 0) _ rfl E.out.1 Tryz.underlying46 rfl (by kernel_rfl)) rfl ⟨13, ⟨#[]⟩, 1, sv, (q0 + 3), rfl, (by omega), hsv'.out, by omega, E.out.2.1, E.out.2.2⟩
    · have hC := Lib.hid (next_any B g (q0 + 2) 3 _ hT2.out (by omega) (by omega) (by omega))
      go_wp2_with fail
      refine hC.out.mono ?_
      rintro e x3 ⟨⟨y, hy, rfl⟩, hTx, hOx⟩
      have hT3 := Lib.hid hTx
      have hO3 := Lib.hid (hO2.out.trans hOx)
      have hR3 := Lib.hid (hR2.out.only hOx (by omega))
      clear hTx hOx hT2 hO2 hR2 hC
      rcases (by omega : y = 0 ∨ y = 1 ∨ y = 2) with rfl | rfl | rfl
      · have hC := Lib.hid (one_new B g (q0 + 3) 3 3 tI0 _ hT3.out (by omega) rfl (by omega) (by omega))
        go_wp2_with fail
        refine hC.out.mono ?_
        rintro e x4 ⟨⟨sv, hsv, rfl⟩, hTx, hOx⟩
        have hsv' := Lib.hid (sml_mem (L := tI0) rfl hsv)
        have hT4 := Lib.hid hTx
        have hO4 := Lib.hid (hO3.out.trans hOx)
        have hR4 := Lib.hid (hR3.out.only hOx (by omega))
        clear hTx hOx hsv hT3 hO3 hR3 hC
        have E := Lib.hid (term_out hR4.out hT4.out hO4.out (Nat.le_refl _) hlt (.int .i64 14) (.string ⟨#[112, 114, 111, 103, 114, 97, 109]⟩) (.int .i64 1) (.string sv))
        have f0 := hR4.out.frozen 0
        have f1 := hR4.out.frozen 1
        have f2 := hR4.out.frozen 2
        have f3 := hR4.out.frozen 3
        have g0 := hR4.out.cell 0
        have g1 := hR4.out.cell 1
        have g2 := hR4.out.cell 2
        have g3 := hR4.out.cell 3
        simp only [List.getElem?_toArray, List.getElem?_cons_zero, List.getElem?_cons_succ] at g0 g1 g2 g3
        clear hR4 hT4 hO4
        go_wp2_with fail
        exact bodyPost_ret (results_cell_row rfl _ _ w.heap.size 46 _ (0, 0) _ rfl E.out.1 Tryz.underlying46 rfl (by kernel_rfl)) rfl ⟨14, ⟨#[112, 114, 111, 103, 114, 97, 109]⟩, 1, sv, (q0 + 4), rfl, (by omega), hsv'.out, by omega, E.out.2.1, E.out.2.2⟩
      · have hC := Lib.hid (one_new B g (q0 + 3) 3 3 tI1 _ hT3.out (by omega) rfl (by omega) (by omega))
        go_wp2_with fail
        refine hC.out.mono ?_
        rintro e x4 ⟨⟨sv, hsv, rfl⟩, hTx, hOx⟩
        have hsv' := Lib.hid (sml_mem (L := tI1) rfl hsv)
        have hT4 := Lib.hid hTx
        have hO4 := Lib.hid (hO3.out.trans hOx)
        have hR4 := Lib.hid (hR3.out.only hOx (by omega))
        clear hTx hOx hsv hT3 hO3 hR3 hC
        have E := Lib.hid (term_out hR4.out hT4.out hO4.out (Nat.le_refl _) hlt (.int .i64 14) (.string ⟨#[112, 97, 114, 101, 110, 116]⟩) (.int .i64 1) (.string sv))
        have f0 := hR4.out.frozen 0
        have f1 := hR4.out.frozen 1
        have f2 := hR4.out.frozen 2
        have f3 := hR4.out.frozen 3
        have g0 := hR4.out.cell 0
        have g1 := hR4.out.cell 1
        have g2 := hR4.out.cell 2
        have g3 := hR4.out.cell 3
        simp only [List.getElem?_toArray, List.getElem?_cons_zero, List.getElem?_cons_succ] at g0 g1 g2 g3
        clear hR4 hT4 hO4
        go_wp2_with fail
        exact bodyPost_ret (results_cell_row rfl _ _ w.heap.size 46 _ (0, 0) _ rfl E.out.1 Tryz.underlying46 rfl (by kernel_rfl)) rfl ⟨14, ⟨#[112, 97, 114, 101, 110, 116]⟩, 1, sv, (q0 + 4), rfl, (by omega), hsv'.out, by omega, E.out.2.1, E.out.2.2⟩
      · have hC := Lib.hid (one_new B g (q0 + 3) 3 3 tI2 _ hT3.out (by omega) rfl (by omega) (by omega))
        go_wp2_with fail
        refine hC.out.mono ?_
        rintro e x4 ⟨⟨sv, hsv, rfl⟩, hTx, hOx⟩
        have hsv' := Lib.hid (sml_mem (L := tI2) rfl hsv)
        have hT4 := Lib.hid hTx
        have hO4 := Lib.hid (hO3.out.trans hOx)
        have hR4 := Lib.hid (hR3.out.only hOx (by omega))
        clear hTx hOx hsv hT3 hO3 hR3 hC
        have E := Lib.hid (term_out hR4.out hT4.out hO4.out (Nat.le_refl _) hlt (.int .i64 14) (.string ⟨#[98, 117, 105, 108, 116, 105, 110]⟩) (.int .i64 1) (.string sv))
        have f0 := hR4.out.frozen 0
        have f1 := hR4.out.frozen 1
        have f2 := hR4.out.frozen 2
        have f3 := hR4.out.frozen 3
        have g0 := hR4.out.cell 0
        have g1 := hR4.out.cell 1
        have g2 := hR4.out.cell 2
        have g3 := hR4.out.cell 3
        simp only [List.getElem?_toArray, List.getElem?_cons_zero, List.getElem?_cons_succ] at g0 g1 g2 g3
        clear hR4 hT4 hO4
        go_wp2_with fail
        exact bodyPost_ret (results_cell_row rfl _ _ w.heap.size 46 _ (0, 0) _ rfl E.out.1 Tryz.underlying46 rfl (by kernel_rfl)) rfl ⟨14, ⟨#[98, 117, 105, 108, 116, 105, 110]⟩, 1, sv, (q0 + 4), rfl, (by omega), hsv'.out, by omega, E.out.2.1, E.out.2.2⟩

end Go.Proofs.YtinjeijjfkkhbaaGreatDoor
