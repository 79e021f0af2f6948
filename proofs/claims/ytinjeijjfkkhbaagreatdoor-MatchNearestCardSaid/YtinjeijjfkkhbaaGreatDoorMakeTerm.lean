/-
  THE WALKS of the makers of terms: coldplugworld.Matches, Assigns, coldpluglaw12.term.
-/
import Derived.Test.YtinjeijjfkkhbaaGreatDoorMakeMatches
import Derived.Deep.DrawnRows
namespace Go.Proofs.YtinjeijjfkkhbaaGreatDoor
open Go.RowKit

theorem tape_drew' {w : World} {B g q : Nat} (h : Tape w B g q) : Tape w.drew B g q := h
def tNa6 : List ByteArray := [⟨#[73, 68, 95, 65]⟩, ⟨#[73, 68, 95, 66]⟩, ⟨#[83, 85, 66, 83, 89, 83, 84, 69, 77]⟩]
def tVa6 : List ByteArray := [⟨#[49]⟩, ⟨#[]⟩, ⟨#[37, 107]⟩, ⟨#[117, 49]⟩, ⟨#[36, 101, 110, 118, 123, 73, 68, 95, 65, 125, 120]⟩]
def tVa7 : List ByteArray := [⟨#[115, 101, 97, 116]⟩, ⟨#[120, 49]⟩, ⟨#[97, 32, 98]⟩, ⟨#[37, 107]⟩]
def tVa15 : List ByteArray := [⟨#[108, 97, 110, 37, 110]⟩, ⟨#[110, 101, 116, 48]⟩, ⟨#[97, 47, 98]⟩, ⟨#[37, 99]⟩]
def tVa16 : List ByteArray := [⟨#[100, 105, 115, 107, 47, 37, 107]⟩, ⟨#[100, 105, 115, 107, 47, 97, 32, 100, 105, 115, 107, 47, 98]⟩, ⟨#[98, 121, 47, 36, 101, 110, 118, 123, 73, 68, 95, 70, 83, 95, 85, 85, 73, 68, 125]⟩, ⟨#[99, 100]⟩, ⟨#[46, 46, 47, 120]⟩, ⟨#[100, 105, 115, 107]⟩]
def tVa17 : List ByteArray := [⟨#[114, 111, 111, 116]⟩, ⟨#[100, 105, 115, 107]⟩, ⟨#[97, 32, 98]⟩, ⟨#[37, 107]⟩]
def tVa19 : List ByteArray := [⟨#[48, 54, 54, 48]⟩, ⟨#[54, 54, 54]⟩, ⟨#[57]⟩, ⟨#[36, 114, 101, 115, 117, 108, 116]⟩]
def tVa20 : List ByteArray := [⟨#[97, 99, 116, 32, 37, 107]⟩, ⟨#[]⟩, ⟨#[108, 111, 103]⟩]
def tVa21 : List ByteArray := [⟨#[117, 115, 98, 58, 118, 49]⟩, ⟨#[117, 115, 98, 58, 118, 50]⟩, ⟨#[]⟩, ⟨#[36, 101, 110, 118, 123, 77, 79, 68, 65, 76, 73, 65, 83, 125]⟩]
def tVa22 : List ByteArray := [⟨#[45, 53]⟩, ⟨#[48]⟩, ⟨#[49, 48]⟩, ⟨#[49, 48, 48]⟩]

theorem Blk.call {w w' : World} {n g : Nat} {t : TypeId} {cs : Array Value} (h : Blk w n t cs) (ho : Only (fun j => j = g) w w') (hn : n ≠ g) : Blk w' n t cs := h.only ho hn
/-- What holds on the way: the tape, the result's block. -/
structure NK (w : World) (B g q rb : Nat) (Y : World) : Prop where
  tape : Tape Y B g q
  only : Only (fun j => j = g) w Y
  res : Blk Y rb 46 #[.int .i64 0, .string ⟨#[]⟩, .int .i64 0, .string ⟨#[]⟩]
  ne : rb ≠ g
theorem NK.alloc {w Y : World} {B g q rb : Nat} (h : NK w B g q rb Y) (o : Obj) : NK w B g q rb (Y.alloc o) := ⟨h.tape.below ((Below.refl _ _).alloc (Nat.le_refl _) _), h.only.alloc o, h.res.alloc o, h.ne⟩
theorem NK.drew {w Y : World} {B g q rb : Nat} (h : NK w B g q rb Y) : NK w B g q rb Y.drew := ⟨tape_drew' h.tape, h.only.drew, h.res, h.ne⟩
theorem nk_next {w Y : World} {B g q rb : Nat} (n : Nat) (h : NK w B g q rb Y) (hq : q ≤ 1000000) (hn : 1 ≤ n) (hn2 : n ≤ 1000) : Calls Tryz.prog 16 #[.pointer (some ⟨g, 0, none⟩), .int .i64 n] Y fun e w' => (∃ r : Nat, r < n ∧ e = .returned (.int .i64 r)) ∧ NK w B g (q + 1) rb w' ∧ Only (fun j => j = g) Y w' :=
  (next_any B g q n Y h.tape hq hn (by omega)).mono fun e w' ⟨h1, h2, h3⟩ => ⟨h1, ⟨h2, h.only.trans h3, h.res.only h3 h.ne, h.ne⟩, h3⟩
theorem nk_one {w Y : World} {B g q rb m n : Nat} (L : List ByteArray) (h : NK w B g q rb Y) (hq : q ≤ 1000000) (hs : Blk Y m 9 (L.map Value.string).toArray) (hm : m ≠ g) (hl : L.length = n) (hn : 1 ≤ n) (hn2 : n ≤ 1000) : Calls Tryz.prog 20 #[.pointer (some ⟨g, 0, none⟩), .slice (some ⟨m, 0, none⟩) n n] Y fun e w' => (∃ s, s ∈ L ∧ e = .returned (.string s)) ∧ NK w B g (q + 1) rb w' ∧ Only (fun j => j = g) Y w' := by
  refine (one_tape B g q m n n L Y h.tape hq hn (by omega) hm hs.lt hl fun i s hi => ?_).mono fun e w' ⟨h1, h2, h3⟩ => ⟨h1, ⟨h2, h.only.trans h3, h.res.only h3 h.ne, h.ne⟩, h3⟩
  refine (hs.cell i).trans ?_
  simp [hi]
theorem NK.cells {w Y : World} {B g q rb : Nat} (h : NK w B g q rb Y) : (Y.cell? ⟨rb, 0, none⟩ = some (.int .i64 0) ∧ Y.cell? ⟨rb, 1, none⟩ = some (.string ⟨#[]⟩) ∧ Y.cell? ⟨rb, 2, none⟩ = some (.int .i64 0) ∧ Y.cell? ⟨rb, 3, none⟩ = some (.string ⟨#[]⟩)) ∧ Y.frozen? ⟨rb, 0, none⟩ = false ∧ Y.frozen? ⟨rb, 1, none⟩ = false ∧ Y.frozen? ⟨rb, 2, none⟩ = false ∧ Y.frozen? ⟨rb, 3, none⟩ = false ∧ rb < Y.heap.size :=
  ⟨⟨h.res.cell 0, h.res.cell 1, h.res.cell 2, h.res.cell 3⟩, h.res.frozen 0, h.res.frozen 1, h.res.frozen 2, h.res.frozen 3, h.res.lt⟩
theorem blk_new1 (y : World) (o : Obj) (t : TypeId) (cs : Array Value) : Blk ((y.alloc o).alloc (.cells cs t)) (y.heap.size + 1) t cs := Blk.new_ _ _ _ (by simp)
theorem nk_fin {w Y : World} {B g q : Nat} {k o : Int} {n v : ByteArray} (h : NK w B g q w.heap.size Y) (hlt : g < w.heap.size) :
    Blk ((((Y.setCell ⟨w.heap.size, 0, none⟩ (.int .i64 k)).setCell ⟨w.heap.size, 1, none⟩ (.string n)).setCell ⟨w.heap.size, 2, none⟩ (.int .i64 o)).setCell ⟨w.heap.size, 3, none⟩ (.string v)) w.heap.size 46 #[.int .i64 k, .string n, .int .i64 o, .string v] ∧
    Tape ((((Y.setCell ⟨w.heap.size, 0, none⟩ (.int .i64 k)).setCell ⟨w.heap.size, 1, none⟩ (.string n)).setCell ⟨w.heap.size, 2, none⟩ (.int .i64 o)).setCell ⟨w.heap.size, 3, none⟩ (.string v)) B g q ∧
    Only (fun j => j = g) w ((((Y.setCell ⟨w.heap.size, 0, none⟩ (.int .i64 k)).setCell ⟨w.heap.size, 1, none⟩ (.string n)).setCell ⟨w.heap.size, 2, none⟩ (.int .i64 o)).setCell ⟨w.heap.size, 3, none⟩ (.string v)) :=
  term_out h.res h.tape h.only (Nat.le_refl _) hlt _ _ _ _
def opf2 (y : Nat) : Int := if y = 0 then 3 else 6
def opf3 (y : Nat) : Int := if y = 0 then 3 else if y = 1 then 4 else 6

attribute [local go_sem ↓] Go.wp_at_zero Go.wp_at_succ
set_option maxRecDepth 100000 in
set_option maxHeartbeats 80000000 in
theorem massigns_any (B g q0 : Nat) (w : World) (hT0 : Tape w B g q0) (hq0 : q0 ≤ 100000) :
    Calls Tryz.prog 47 #[.pointer (some ⟨g, 0, none⟩)] w fun e w' => ∃ (k : Int) (n : ByteArray) (o : Int) (v : ByteArray) (q : Nat), e = .returned (termV k n o v) ∧ True ∧ v.size ≤ 100 ∧ q ≤ q0 + 6 ∧ Tape w' B g q ∧ Only (fun j => j = g) w w' := by
  have hlt : g < w.heap.size := hT0.lt.2
  have hO : Hid (Only (fun j => j = g) w (w.alloc (.cells #[.int .i64 0, .string ⟨#[]⟩, .int .i64 0, .string ⟨#[]⟩] 46))) := (Only.refl _ _).alloc _
  have hT : Hid (Tape (w.alloc (.cells #[.int .i64 0, .string ⟨#[]⟩, .int .i64 0, .string ⟨#[]⟩] 46)) B g q0) := hT0.below ((Below.refl _ _).alloc (Nat.le_refl _) _)
  have hR : Hid (Blk (w.alloc (.cells #[.int .i64 0, .string ⟨#[]⟩, .int .i64 0, .string ⟨#[]⟩] 46)) w.heap.size 46 #[.int .i64 0, .string ⟨#[]⟩, .int .i64 0, .string ⟨#[]⟩]) := Blk.new _ _ _
  clear hT0
  unfold termV
  go_enter Tryz.func47, Tryz.ntmps47
  have hC := Lib.hid (next_any B g q0 14 _ hT.out (by omega) (by omega) (by omega))
  go_wp2_with fail
  refine hC.out.mono ?_
  rintro e x1 ⟨⟨r, hr, rfl⟩, hTx, hOx⟩
  have hT1 := Lib.hid hTx
  have hO1 := Lib.hid (hO.out.trans hOx)
  have hR1 := Lib.hid (hR.out.only hOx (by omega))
  clear hTx hOx hT hO hR hC
  rcases (by omega : r = 0 ∨ r = 1 ∨ r = 2 ∨ r = 3 ∨ r = 4 ∨ r = 5 ∨ r = 6 ∨ r = 7 ∨ r = 8 ∨ r = 9 ∨ r = 10 ∨ r = 11 ∨ r = 12 ∨ r = 13) with rfl | rfl | rfl | rfl | rfl | rfl | rfl | rfl | rfl | rfl | rfl | rfl | rfl | rfl
  · have hC := Lib.hid (one_new B g (q0 + 1) 3 3 tNa6 _ hT1.out (by omega) rfl (by omega) (by omega))
    go_wp2_with fail
    refine hC.out.mono ?_
    rintro e x2 ⟨⟨sn, hsn, rfl⟩, hTx, hOx⟩
    have hsn' := Lib.hid (sml_mem (L := tNa6) rfl hsn)
    have hT2 := Lib.hid hTx
    have hO2 := Lib.hid (hO1.out.trans hOx)
    have hR2 := Lib.hid (hR1.out.only hOx (by omega))
    clear hTx hOx hsn hT1 hO1 hR1 hC
    have hC := Lib.hid (next_any B g (q0 + 2) 2 _ hT2.out (by omega) (by omega) (by omega))
    go_wp2_with fail
    refine hC.out.mono ?_
    rintro e x3 ⟨⟨y, hy, rfl⟩, hTx, hOx⟩
    have hT3 := Lib.hid hTx
    have hO3 := Lib.hid (hO2.out.trans hOx)
    have hR3 := Lib.hid (hR2.out.only hOx (by omega))
    clear hTx hOx hT2 hO2 hR2 hC
    have hC := Lib.hid (one_new B g (q0 + 3) 5 5 tVa6 _ hT3.out (by omega) rfl (by omega) (by omega))
    go_wp2_with fail
    refine hC.out.mono ?_
    rintro e x4 ⟨⟨sv, hsv, rfl⟩, hTx, hOx⟩
    have hsv' := Lib.hid (sml_mem (L := tVa6) rfl hsv)
    have hT4 := Lib.hid hTx
    have hO4 := Lib.hid (hO3.out.trans hOx)
    have hR4 := Lib.hid (hR3.out.only hOx (by omega))
    clear hTx hOx hsv hT3 hO3 hR3 hC
    have E := Lib.hid (term_out hR4.out hT4.out hO4.out (Nat.le_refl _) hlt (.int .i64 6) (.string sn) (.int .i64 (3 + (y : Int))) (.string sv))
    have f0 := hR4.out.frozen 0
    have f1 := hR4.out.frozen 1
    have f2 := hR4.out.frozen 2
    have f3 := hR4.out.frozen 3
    have g0 := hR4.out.cell 0
    have g1 := hR4.out.cell 1
    have g2 := hR4.out.cell 2
    have g3 := hR4.out.cell 3
    simp only [List.getElem?_toArray, List.getElem?_cons_zero, List.getElem?_cons_succ] at g0 g1 g2 g3
    clear hR4 hT4 hO4
    go_wp2_with fail
    exact bodyPost_ret (results_cell_row rfl _ _ w.heap.size 46 _ (0, 0) _ rfl E.out.1 Tryz.underlying46 rfl (by kernel_rfl)) rfl ⟨6, sn, (3 + (y : Int)), sv, (q0 + 4), rfl, trivial, hsv'.out, by omega, E.out.2.1, E.out.2.2⟩
  · have hC := Lib.hid (one_new B g (q0 + 1) 3 3 tNa6 _ hT1.out (by omega) rfl (by omega) (by omega))
    go_wp2_with fail
    refine hC.out.mono ?_
    rintro e x2 ⟨⟨sn, hsn, rfl⟩, hTx, hOx⟩
    have hsn' := Lib.hid (sml_mem (L := tNa6) rfl hsn)
    have hT2 := Lib.hid hTx
    have hO2 := Lib.hid (hO1.out.trans hOx)
    have hR2 := Lib.hid (hR1.out.only hOx (by omega))
    clear hTx hOx hsn hT1 hO1 hR1 hC
    have hC := Lib.hid (next_any B g (q0 + 2) 2 _ hT2.out (by omega) (by omega) (by omega))
    go_wp2_with fail
    refine hC.out.mono ?_
    rintro e x3 ⟨⟨y, hy, rfl⟩, hTx, hOx⟩
    have hT3 := Lib.hid hTx
    have hO3 := Lib.hid (hO2.out.trans hOx)
    have hR3 := Lib.hid (hR2.out.only hOx (by omega))
    clear hTx hOx hT2 hO2 hR2 hC
    have hC := Lib.hid (one_new B g (q0 + 3) 5 5 tVa6 _ hT3.out (by omega) rfl (by omega) (by omega))
    go_wp2_with fail
    refine hC.out.mono ?_
    rintro e x4 ⟨⟨sv, hsv, rfl⟩, hTx, hOx⟩
    have hsv' := Lib.hid (sml_mem (L := tVa6) rfl hsv)
    have hT4 := Lib.hid hTx
    have hO4 := Lib.hid (hO3.out.trans hOx)
    have hR4 := Lib.hid (hR3.out.only hOx (by omega))
    clear hTx hOx hsv hT3 hO3 hR3 hC
    have E := Lib.hid (term_out hR4.out hT4.out hO4.out (Nat.le_refl _) hlt (.int .i64 6) (.string sn) (.int .i64 (3 + (y : Int))) (.string sv))
    have f0 := hR4.out.frozen 0
    have f1 := hR4.out.frozen 1
    have f2 := hR4.out.frozen 2
    have f3 := hR4.out.frozen 3
    have g0 := hR4.out.cell 0
    have g1 := hR4.out.cell 1
    have g2 := hR4.out.cell 2
    have g3 := hR4.out.cell 3
    simp only [List.getElem?_toArray, List.getElem?_cons_zero, List.getElem?_cons_succ] at g0 g1 g2 g3
    clear hR4 hT4 hO4
    go_wp2_with fail
    exact bodyPost_ret (results_cell_row rfl _ _ w.heap.size 46 _ (0, 0) _ rfl E.out.1 Tryz.underlying46 rfl (by kernel_rfl)) rfl ⟨6, sn, (3 + (y : Int)), sv, (q0 + 4), rfl, trivial, hsv'.out, by omega, E.out.2.1, E.out.2.2⟩
  · have hC := Lib.hid (next_any B g (q0 + 1) 3 _ hT1.out (by omega) (by omega) (by omega))
    go_wp2_with fail
    refine hC.out.mono ?_
    rintro e x2 ⟨⟨y, hy, rfl⟩, hTx, hOx⟩
    have hT2 := Lib.hid hTx
    have hO2 := Lib.hid (hO1.out.trans hOx)
    have hR2 := Lib.hid (hR1.out.only hOx (by omega))
    clear hTx hOx hT1 hO1 hR1 hC
    have hC := Lib.hid (one_new B g (q0 + 2) 4 4 tVa7 _ hT2.out (by omega) rfl (by omega) (by omega))
    go_wp2_with fail
    refine hC.out.mono ?_
    rintro e x3 ⟨⟨sv, hsv, rfl⟩, hTx, hOx⟩
    have hsv' := Lib.hid (sml_mem (L := tVa7) rfl hsv)
    have hT3 := Lib.hid hTx
    have hO3 := Lib.hid (hO2.out.trans hOx)
    have hR3 := Lib.hid (hR2.out.only hOx (by omega))
    clear hTx hOx hsv hT2 hO2 hR2 hC
    have E := Lib.hid (term_out hR3.out hT3.out hO3.out (Nat.le_refl _) hlt (.int .i64 7) (.string ⟨#[]⟩) (.int .i64 (3 + (y : Int))) (.string sv))
    have f0 := hR3.out.frozen 0
    have f1 := hR3.out.frozen 1
    have f2 := hR3.out.frozen 2
    have f3 := hR3.out.frozen 3
    have g0 := hR3.out.cell 0
    have g1 := hR3.out.cell 1
    have g2 := hR3.out.cell 2
    have g3 := hR3.out.cell 3
    simp only [List.getElem?_toArray, List.getElem?_cons_zero, List.getElem?_cons_succ] at g0 g1 g2 g3
    clear hR3 hT3 hO3
    go_wp2_with fail
    exact bodyPost_ret (results_cell_row rfl _ _ w.heap.size 46 _ (0, 0) _ rfl E.out.1 Tryz.underlying46 rfl (by kernel_rfl)) rfl ⟨7, ⟨#[]⟩, (3 + (y : Int)), sv, (q0 + 3), rfl, trivial, hsv'.out, by omega, E.out.2.1, E.out.2.2⟩
  · have hC := Lib.hid (next_any B g (q0 + 1) 3 _ hT1.out (by omega) (by omega) (by omega))
    go_wp2_with fail
    refine hC.out.mono ?_
    rintro e x2 ⟨⟨y, hy, rfl⟩, hTx, hOx⟩
    have hT2 := Lib.hid hTx
    have hO2 := Lib.hid (hO1.out.trans hOx)
    have hR2 := Lib.hid (hR1.out.only hOx (by omega))
    clear hTx hOx hT1 hO1 hR1 hC
    have hC := Lib.hid (one_new B g (q0 + 2) 4 4 tVa7 _ hT2.out (by omega) rfl (by omega) (by omega))
    go_wp2_with fail
    refine hC.out.mono ?_
    rintro e x3 ⟨⟨sv, hsv, rfl⟩, hTx, hOx⟩
    have hsv' := Lib.hid (sml_mem (L := tVa7) rfl hsv)
    have hT3 := Lib.hid hTx
    have hO3 := Lib.hid (hO2.out.trans hOx)
    have hR3 := Lib.hid (hR2.out.only hOx (by omega))
    clear hTx hOx hsv hT2 hO2 hR2 hC
    have E := Lib.hid (term_out hR3.out hT3.out hO3.out (Nat.le_refl _) hlt (.int .i64 7) (.string ⟨#[]⟩) (.int .i64 (3 + (y : Int))) (.string sv))
    have f0 := hR3.out.frozen 0
    have f1 := hR3.out.frozen 1
    have f2 := hR3.out.frozen 2
    have f3 := hR3.out.frozen 3
    have g0 := hR3.out.cell 0
    have g1 := hR3.out.cell 1
    have g2 := hR3.out.cell 2
    have g3 := hR3.out.cell 3
    simp only [List.getElem?_toArray, List.getElem?_cons_zero, List.getElem?_cons_succ] at g0 g1 g2 g3
    clear hR3 hT3 hO3
    go_wp2_with fail
    exact bodyPost_ret (results_cell_row rfl _ _ w.heap.size 46 _ (0, 0) _ rfl E.out.1 Tryz.underlying46 rfl (by kernel_rfl)) rfl ⟨7, ⟨#[]⟩, (3 + (y : Int)), sv, (q0 + 3), rfl, trivial, hsv'.out, by omega, E.out.2.1, E.out.2.2⟩
  · have hX : NK w B g ((q0 + 1)) w.heap.size x1 := ⟨hT1.out, hO1.out, hR1.out, by omega⟩
    clear hT1 hO1 hR1
    have nE : Hid (NK w B g ((q0 + 1)) w.heap.size x1.drew) := hX.drew
    have nA : Hid (NK w B g ((q0 + 1)) w.heap.size (x1.alloc (.cells #[.int .i64 3, .int .i64 6] 3)).drew) := (hX.alloc _).drew
    have nD : Hid (NK w B g ((q0 + 1)) w.heap.size (x1.alloc (.cells #[.string ⟨#[108, 97, 110, 37, 110]⟩, .string ⟨#[110, 101, 116, 48]⟩, .string ⟨#[97, 47, 98]⟩, .string ⟨#[37, 99]⟩] 9)).drew) := (hX.alloc _).drew
    have nBb : Hid (NK w B g ((q0 + 1)) w.heap.size ((x1.alloc (.cells #[.int .i64 3, .int .i64 6] 3)).alloc (.cells #[.string ⟨#[108, 97, 110, 37, 110]⟩, .string ⟨#[110, 101, 116, 48]⟩, .string ⟨#[97, 47, 98]⟩, .string ⟨#[37, 99]⟩] 9)).drew) := ((hX.alloc _).alloc _).drew
    have nC : Hid (NK w B g ((q0 + 1)) w.heap.size ((x1.alloc (.cells #[.string ⟨#[108, 97, 110, 37, 110]⟩, .string ⟨#[110, 101, 116, 48]⟩, .string ⟨#[97, 47, 98]⟩, .string ⟨#[37, 99]⟩] 9)).alloc (.cells #[.int .i64 3, .int .i64 6] 3)).drew) := ((hX.alloc _).alloc _).drew
    have hgx : g < x1.heap.size := hX.tape.lt.2
    have hN : Hid (∀ Y, NK w B g ((q0 + 1)) w.heap.size Y → Calls Tryz.prog 16 #[.pointer (some ⟨g, 0, none⟩), .int .i64 2] Y fun e w' => (∃ r : Nat, r < 2 ∧ e = .returned (.int .i64 r)) ∧ NK w B g ((q0 + 1) + 1) w.heap.size w' ∧ Only (fun j => j = g) Y w') := fun Y h => nk_next 2 h (by omega) (by omega) (by omega)
    have hO : Hid (∀ Y m, NK w B g ((q0 + 1) + 1) w.heap.size Y → Blk Y m 9 #[.string ⟨#[108, 97, 110, 37, 110]⟩, .string ⟨#[110, 101, 116, 48]⟩, .string ⟨#[97, 47, 98]⟩, .string ⟨#[37, 99]⟩] → m ≠ g → Calls Tryz.prog 20 #[.pointer (some ⟨g, 0, none⟩), .slice (some ⟨m, 0, none⟩) 4 4] Y fun e w' => (∃ s, s ∈ tVa15 ∧ e = .returned (.string s)) ∧ NK w B g ((q0 + 1) + 1 + 1) w.heap.size w' ∧ Only (fun j => j = g) Y w') := fun Y m h hs hm => nk_one tVa15 h (by omega) hs hm rfl (by omega) (by omega)
    have pA : Hid (∀ y, Only (fun j => j = g) (x1.alloc (.cells #[.int .i64 3, .int .i64 6] 3)).drew y → Blk y x1.heap.size 3 #[.int .i64 3, .int .i64 6]) := fun y h => Blk.call (w := (x1.alloc (.cells #[.int .i64 3, .int .i64 6] 3)).drew) (Blk.new _ _ _).drew h (by omega)
    have pD : Hid (∀ y, Only (fun j => j = g) (x1.alloc (.cells #[.string ⟨#[108, 97, 110, 37, 110]⟩, .string ⟨#[110, 101, 116, 48]⟩, .string ⟨#[97, 47, 98]⟩, .string ⟨#[37, 99]⟩] 9)).drew y → Blk y x1.heap.size 9 #[.string ⟨#[108, 97, 110, 37, 110]⟩, .string ⟨#[110, 101, 116, 48]⟩, .string ⟨#[97, 47, 98]⟩, .string ⟨#[37, 99]⟩]) := fun y h => Blk.call (w := (x1.alloc (.cells #[.string ⟨#[108, 97, 110, 37, 110]⟩, .string ⟨#[110, 101, 116, 48]⟩, .string ⟨#[97, 47, 98]⟩, .string ⟨#[37, 99]⟩] 9)).drew) (Blk.new _ _ _).drew h (by omega)
    have pB : Hid (∀ y, Only (fun j => j = g) ((x1.alloc (.cells #[.int .i64 3, .int .i64 6] 3)).alloc (.cells #[.string ⟨#[108, 97, 110, 37, 110]⟩, .string ⟨#[110, 101, 116, 48]⟩, .string ⟨#[97, 47, 98]⟩, .string ⟨#[37, 99]⟩] 9)).drew y → Blk y x1.heap.size 3 #[.int .i64 3, .int .i64 6] ∧ Blk y (x1.heap.size + 1) 9 #[.string ⟨#[108, 97, 110, 37, 110]⟩, .string ⟨#[110, 101, 116, 48]⟩, .string ⟨#[97, 47, 98]⟩, .string ⟨#[37, 99]⟩]) := fun y h => ⟨Blk.call (w := ((x1.alloc (.cells #[.int .i64 3, .int .i64 6] 3)).alloc (.cells #[.string ⟨#[108, 97, 110, 37, 110]⟩, .string ⟨#[110, 101, 116, 48]⟩, .string ⟨#[97, 47, 98]⟩, .string ⟨#[37, 99]⟩] 9)).drew) ((Blk.new _ _ _).alloc _).drew h (by omega), Blk.call (w := ((x1.alloc (.cells #[.int .i64 3, .int .i64 6] 3)).alloc (.cells #[.string ⟨#[108, 97, 110, 37, 110]⟩, .string ⟨#[110, 101, 116, 48]⟩, .string ⟨#[97, 47, 98]⟩, .string ⟨#[37, 99]⟩] 9)).drew) (blk_new1 _ _ _ _).drew h (by omega)⟩
    have pC : Hid (∀ y, Only (fun j => j = g) ((x1.alloc (.cells #[.string ⟨#[108, 97, 110, 37, 110]⟩, .string ⟨#[110, 101, 116, 48]⟩, .string ⟨#[97, 47, 98]⟩, .string ⟨#[37, 99]⟩] 9)).alloc (.cells #[.int .i64 3, .int .i64 6] 3)).drew y → Blk y (x1.heap.size + 1) 3 #[.int .i64 3, .int .i64 6] ∧ Blk y x1.heap.size 9 #[.string ⟨#[108, 97, 110, 37, 110]⟩, .string ⟨#[110, 101, 116, 48]⟩, .string ⟨#[97, 47, 98]⟩, .string ⟨#[37, 99]⟩]) := fun y h => ⟨Blk.call (w := ((x1.alloc (.cells #[.string ⟨#[108, 97, 110, 37, 110]⟩, .string ⟨#[110, 101, 116, 48]⟩, .string ⟨#[97, 47, 98]⟩, .string ⟨#[37, 99]⟩] 9)).alloc (.cells #[.int .i64 3, .int .i64 6] 3)).drew) (blk_new1 _ _ _ _).drew h (by omega), Blk.call (w := ((x1.alloc (.cells #[.string ⟨#[108, 97, 110, 37, 110]⟩, .string ⟨#[110, 101, 116, 48]⟩, .string ⟨#[97, 47, 98]⟩, .string ⟨#[37, 99]⟩] 9)).alloc (.cells #[.int .i64 3, .int .i64 6] 3)).drew) ((Blk.new _ _ _).alloc _).drew h (by omega)⟩
    have hpk : Hid (∀ y : Nat, y < 2 → (#[.int .i64 3, .int .i64 6] : Array Value)[y]? = some (.int .i64 (opf2 y)) ∧ (∀ h : y < ([.int .i64 3, .int .i64 6] : List Value).length, ([.int .i64 3, .int .i64 6] : List Value)[y]'h = .int .i64 (opf2 y)) ∧ (0 : Int) ≤ (y : Int) ∧ (y : Int) < 2) := fun y hy => by
      rcases (by omega : y = 0 ∨ y = 1) with rfl | rfl <;> exact ⟨rfl, fun _ => rfl, by omega, by omega⟩
    have nx0 : x1.heap.size ≠ g := by omega
    have nx1 : x1.heap.size + 1 ≠ g := by omega
    have hge : Hid (∀ y, NK w B g ((q0 + 1) + 1) w.heap.size y → y.heap.size ≠ g ∧ y.heap.size + 1 ≠ g) := fun y h => by have := h.tape.lt; omega
    clear hX
    go_upto_region 9 with fail
    go_region_law (first | (go_simp; go_at_call 16; refine (hN.out _ ?_).mono ?_; (first | (with_reducible exact nE.out) | (with_reducible exact nA.out) | (with_reducible exact nD.out) | (with_reducible exact nBb.out) | (with_reducible exact nC.out)); rintro e y2 ⟨⟨y, hy, rfl⟩, hK2, hO2⟩; have pk := hpk.out y hy; have cL := pk.1; have cM := pk.2.1; have iy0 := pk.2.2.1; have iy1 := pk.2.2.2; have ne2 := (hge.out y2 hK2).1; have ne3 := (hge.out y2 hK2).2; (first | (have bI := (pB.out y2 hO2).1; have bS := (pB.out y2 hO2).2; have neI := nx0; have neS := nx1) | (have bI := (pC.out y2 hO2).1; have bS := (pC.out y2 hO2).2; have neI := nx1; have neS := nx0) | (have bI := pA.out y2 hO2; have neI := nx0) | (have bS := pD.out y2 hO2; have neS := nx0) | skip); (first | (have cI := (bI.cell y).trans cL; have zI := bI.lt) | skip)) | (go_simp; go_at_call 20; first | ((with_reducible show Calls _ _ _ y2 _); refine (hO.out y2 _ hK2 bS neS).mono ?_; rintro e y3 ⟨⟨sv, hsv, rfl⟩, hK3, hO3⟩; have r0 := hK3.cells; have r1 := r0.1.1; have r2 := r0.1.2.1; have r3 := r0.1.2.2.1; have r4 := r0.1.2.2.2; have r5 := r0.2.1; have r6 := r0.2.2.1; have r7 := r0.2.2.2.1; have r8 := r0.2.2.2.2.1; have r9 := r0.2.2.2.2.2; (first | (have bJ := bI.call hO3 neI; have cJ := (bJ.cell y).trans cL; have zJ := bJ.lt) | skip)) | ((with_reducible show Calls _ _ _ (y2.alloc (.cells #[.int .i64 3, .int .i64 6] 3)) _); refine (hO.out (y2.alloc (.cells #[.int .i64 3, .int .i64 6] 3)) _ (hK2.alloc _) (bS.alloc _) neS).mono ?_; rintro e y3 ⟨⟨sv, hsv, rfl⟩, hK3, hO3⟩; have r0 := hK3.cells; have r1 := r0.1.1; have r2 := r0.1.2.1; have r3 := r0.1.2.2.1; have r4 := r0.1.2.2.2; have r5 := r0.2.1; have r6 := r0.2.2.1; have r7 := r0.2.2.2.1; have r8 := r0.2.2.2.2.1; have r9 := r0.2.2.2.2.2; (first | (have bJ := (Blk.new y2 _ _).call hO3 ne2; have cJ := (bJ.cell y).trans cL; have zJ := bJ.lt) | skip)) | ((with_reducible show Calls _ _ _ (y2.alloc (.cells #[.string ⟨#[108, 97, 110, 37, 110]⟩, .string ⟨#[110, 101, 116, 48]⟩, .string ⟨#[97, 47, 98]⟩, .string ⟨#[37, 99]⟩] 9)) _); refine (hO.out (y2.alloc (.cells #[.string ⟨#[108, 97, 110, 37, 110]⟩, .string ⟨#[110, 101, 116, 48]⟩, .string ⟨#[97, 47, 98]⟩, .string ⟨#[37, 99]⟩] 9)) y2.heap.size (hK2.alloc _) (Blk.new y2 _ _) ne2).mono ?_; rintro e y3 ⟨⟨sv, hsv, rfl⟩, hK3, hO3⟩; have r0 := hK3.cells; have r1 := r0.1.1; have r2 := r0.1.2.1; have r3 := r0.1.2.2.1; have r4 := r0.1.2.2.2; have r5 := r0.2.1; have r6 := r0.2.2.1; have r7 := r0.2.2.2.1; have r8 := r0.2.2.2.2.1; have r9 := r0.2.2.2.2.2; (first | (have bJ := (bI.alloc _).call hO3 neI; have cJ := (bJ.cell y).trans cL; have zJ := bJ.lt) | skip)) | ((with_reducible show Calls _ _ _ ((y2.alloc (.cells #[.int .i64 3, .int .i64 6] 3)).alloc (.cells #[.string ⟨#[108, 97, 110, 37, 110]⟩, .string ⟨#[110, 101, 116, 48]⟩, .string ⟨#[97, 47, 98]⟩, .string ⟨#[37, 99]⟩] 9)) _); refine (hO.out ((y2.alloc (.cells #[.int .i64 3, .int .i64 6] 3)).alloc (.cells #[.string ⟨#[108, 97, 110, 37, 110]⟩, .string ⟨#[110, 101, 116, 48]⟩, .string ⟨#[97, 47, 98]⟩, .string ⟨#[37, 99]⟩] 9)) (y2.heap.size + 1) ((hK2.alloc _).alloc _) (blk_new1 y2 _ _ _) ne3).mono ?_; rintro e y3 ⟨⟨sv, hsv, rfl⟩, hK3, hO3⟩; have r0 := hK3.cells; have r1 := r0.1.1; have r2 := r0.1.2.1; have r3 := r0.1.2.2.1; have r4 := r0.1.2.2.2; have r5 := r0.2.1; have r6 := r0.2.2.1; have r7 := r0.2.2.2.1; have r8 := r0.2.2.2.2.1; have r9 := r0.2.2.2.2.2; (first | (have bJ := ((Blk.new y2 _ _).alloc _).call hO3 ne2; have cJ := (bJ.cell y).trans cL; have zJ := bJ.lt) | skip)) | ((with_reducible show Calls _ _ _ ((y2.alloc (.cells #[.string ⟨#[108, 97, 110, 37, 110]⟩, .string ⟨#[110, 101, 116, 48]⟩, .string ⟨#[97, 47, 98]⟩, .string ⟨#[37, 99]⟩] 9)).alloc (.cells #[.int .i64 3, .int .i64 6] 3)) _); refine (hO.out ((y2.alloc (.cells #[.string ⟨#[108, 97, 110, 37, 110]⟩, .string ⟨#[110, 101, 116, 48]⟩, .string ⟨#[97, 47, 98]⟩, .string ⟨#[37, 99]⟩] 9)).alloc (.cells #[.int .i64 3, .int .i64 6] 3)) y2.heap.size ((hK2.alloc _).alloc _) ((Blk.new y2 _ _).alloc _) ne2).mono ?_; rintro e y3 ⟨⟨sv, hsv, rfl⟩, hK3, hO3⟩; have r0 := hK3.cells; have r1 := r0.1.1; have r2 := r0.1.2.1; have r3 := r0.1.2.2.1; have r4 := r0.1.2.2.2; have r5 := r0.2.1; have r6 := r0.2.2.1; have r7 := r0.2.2.2.1; have r8 := r0.2.2.2.2.1; have r9 := r0.2.2.2.2.2; (first | (have bJ := (blk_new1 y2 _ _ _).call hO3 ne3; have cJ := (bJ.cell y).trans cL; have zJ := bJ.lt) | skip))))
    all_goals
      have hF := nk_fin (n := ⟨#[]⟩) (o := opf2 y) (k := 15) (v := sv) hK3 hlt
      have F1 := Lib.hid hF.1
      have F2 := Lib.hid hF.2.1
      have F3 := Lib.hid hF.2.2
      have F4 := Lib.hid (sml_mem (L := tVa15) rfl hsv)
      clear hF hK3 hO3 hsv hK2 hO2 nE nA nD nBb nC hN hO pA pB pC pD hpk hge
      go_wp2_with fail
      first
        | exact bodyPost_ret (results_cell_row rfl _ _ w.heap.size 46 _ (0, 0) _ rfl F1.out Tryz.underlying46 rfl (by kernel_rfl)) rfl ⟨15, ⟨#[]⟩, opf2 y, sv, (q0 + 1) + 1 + 1, rfl, trivial, F4.out, by omega, F2.out, F3.out⟩
        | exact bodyPost_ret (results_cell_row rfl _ _ w.heap.size 46 _ (0, 0) _ rfl (F1.out.alloc _) Tryz.underlying46 rfl (by kernel_rfl)) rfl ⟨15, ⟨#[]⟩, opf2 y, sv, (q0 + 1) + 1 + 1, rfl, trivial, F4.out, by omega, F2.out.below ((Below.refl _ _).alloc (Nat.le_refl _) _), F3.out.alloc _⟩
  · have hC := Lib.hid (next_any B g (q0 + 1) 4 _ hT1.out (by omega) (by omega) (by omega))
    go_wp2_with fail
    refine hC.out.mono ?_
    rintro e x2 ⟨⟨y, hy, rfl⟩, hTx, hOx⟩
    have hT2 := Lib.hid hTx
    have hO2 := Lib.hid (hO1.out.trans hOx)
    have hR2 := Lib.hid (hR1.out.only hOx (by omega))
    clear hTx hOx hT1 hO1 hR1 hC
    have hC := Lib.hid (one_new B g (q0 + 2) 6 6 tVa16 _ hT2.out (by omega) rfl (by omega) (by omega))
    go_wp2_with fail
    refine hC.out.mono ?_
    rintro e x3 ⟨⟨sv, hsv, rfl⟩, hTx, hOx⟩
    have hsv' := Lib.hid (sml_mem (L := tVa16) rfl hsv)
    have hT3 := Lib.hid hTx
    have hO3 := Lib.hid (hO2.out.trans hOx)
    have hR3 := Lib.hid (hR2.out.only hOx (by omega))
    clear hTx hOx hsv hT2 hO2 hR2 hC
    have E := Lib.hid (term_out hR3.out hT3.out hO3.out (Nat.le_refl _) hlt (.int .i64 16) (.string ⟨#[]⟩) (.int .i64 (3 + (y : Int))) (.string sv))
    have f0 := hR3.out.frozen 0
    have f1 := hR3.out.frozen 1
    have f2 := hR3.out.frozen 2
    have f3 := hR3.out.frozen 3
    have g0 := hR3.out.cell 0
    have g1 := hR3.out.cell 1
    have g2 := hR3.out.cell 2
    have g3 := hR3.out.cell 3
    simp only [List.getElem?_toArray, List.getElem?_cons_zero, List.getElem?_cons_succ] at g0 g1 g2 g3
    clear hR3 hT3 hO3
    go_wp2_with fail
    exact bodyPost_ret (results_cell_row rfl _ _ w.heap.size 46 _ (0, 0) _ rfl E.out.1 Tryz.underlying46 rfl (by kernel_rfl)) rfl ⟨16, ⟨#[]⟩, (3 + (y : Int)), sv, (q0 + 3), rfl, trivial, hsv'.out, by omega, E.out.2.1, E.out.2.2⟩
  · have hC := Lib.hid (next_any B g (q0 + 1) 4 _ hT1.out (by omega) (by omega) (by omega))
    go_wp2_with fail
    refine hC.out.mono ?_
    rintro e x2 ⟨⟨y, hy, rfl⟩, hTx, hOx⟩
    have hT2 := Lib.hid hTx
    have hO2 := Lib.hid (hO1.out.trans hOx)
    have hR2 := Lib.hid (hR1.out.only hOx (by omega))
    clear hTx hOx hT1 hO1 hR1 hC
    have hC := Lib.hid (one_new B g (q0 + 2) 6 6 tVa16 _ hT2.out (by omega) rfl (by omega) (by omega))
    go_wp2_with fail
    refine hC.out.mono ?_
    rintro e x3 ⟨⟨sv, hsv, rfl⟩, hTx, hOx⟩
    have hsv' := Lib.hid (sml_mem (L := tVa16) rfl hsv)
    have hT3 := Lib.hid hTx
    have hO3 := Lib.hid (hO2.out.trans hOx)
    have hR3 := Lib.hid (hR2.out.only hOx (by omega))
    clear hTx hOx hsv hT2 hO2 hR2 hC
    have E := Lib.hid (term_out hR3.out hT3.out hO3.out (Nat.le_refl _) hlt (.int .i64 16) (.string ⟨#[]⟩) (.int .i64 (3 + (y : Int))) (.string sv))
    have f0 := hR3.out.frozen 0
    have f1 := hR3.out.frozen 1
    have f2 := hR3.out.frozen 2
    have f3 := hR3.out.frozen 3
    have g0 := hR3.out.cell 0
    have g1 := hR3.out.cell 1
    have g2 := hR3.out.cell 2
    have g3 := hR3.out.cell 3
    simp only [List.getElem?_toArray, List.getElem?_cons_zero, List.getElem?_cons_succ] at g0 g1 g2 g3
    clear hR3 hT3 hO3
    go_wp2_with fail
    exact bodyPost_ret (results_cell_row rfl _ _ w.heap.size 46 _ (0, 0) _ rfl E.out.1 Tryz.underlying46 rfl (by kernel_rfl)) rfl ⟨16, ⟨#[]⟩, (3 + (y : Int)), sv, (q0 + 3), rfl, trivial, hsv'.out, by omega, E.out.2.1, E.out.2.2⟩
  · have hC := Lib.hid (next_any B g (q0 + 1) 4 _ hT1.out (by omega) (by omega) (by omega))
    go_wp2_with fail
    refine hC.out.mono ?_
    rintro e x2 ⟨⟨y, hy, rfl⟩, hTx, hOx⟩
    have hT2 := Lib.hid hTx
    have hO2 := Lib.hid (hO1.out.trans hOx)
    have hR2 := Lib.hid (hR1.out.only hOx (by omega))
    clear hTx hOx hT1 hO1 hR1 hC
    have hC := Lib.hid (one_new B g (q0 + 2) 6 6 tVa16 _ hT2.out (by omega) rfl (by omega) (by omega))
    go_wp2_with fail
    refine hC.out.mono ?_
    rintro e x3 ⟨⟨sv, hsv, rfl⟩, hTx, hOx⟩
    have hsv' := Lib.hid (sml_mem (L := tVa16) rfl hsv)
    have hT3 := Lib.hid hTx
    have hO3 := Lib.hid (hO2.out.trans hOx)
    have hR3 := Lib.hid (hR2.out.only hOx (by omega))
    clear hTx hOx hsv hT2 hO2 hR2 hC
    have E := Lib.hid (term_out hR3.out hT3.out hO3.out (Nat.le_refl _) hlt (.int .i64 16) (.string ⟨#[]⟩) (.int .i64 (3 + (y : Int))) (.string sv))
    have f0 := hR3.out.frozen 0
    have f1 := hR3.out.frozen 1
    have f2 := hR3.out.frozen 2
    have f3 := hR3.out.frozen 3
    have g0 := hR3.out.cell 0
    have g1 := hR3.out.cell 1
    have g2 := hR3.out.cell 2
    have g3 := hR3.out.cell 3
    simp only [List.getElem?_toArray, List.getElem?_cons_zero, List.getElem?_cons_succ] at g0 g1 g2 g3
    clear hR3 hT3 hO3
    go_wp2_with fail
    exact bodyPost_ret (results_cell_row rfl _ _ w.heap.size 46 _ (0, 0) _ rfl E.out.1 Tryz.underlying46 rfl (by kernel_rfl)) rfl ⟨16, ⟨#[]⟩, (3 + (y : Int)), sv, (q0 + 3), rfl, trivial, hsv'.out, by omega, E.out.2.1, E.out.2.2⟩
  · have hC := Lib.hid (next_any B g (q0 + 1) 2 _ hT1.out (by omega) (by omega) (by omega))
    go_wp2_with fail
    refine hC.out.mono ?_
    rintro e x2 ⟨⟨y, hy, rfl⟩, hTx, hOx⟩
    have hT2 := Lib.hid hTx
    have hO2 := Lib.hid (hO1.out.trans hOx)
    have hR2 := Lib.hid (hR1.out.only hOx (by omega))
    clear hTx hOx hT1 hO1 hR1 hC
    have hC := Lib.hid (one_new B g (q0 + 2) 4 4 tVa17 _ hT2.out (by omega) rfl (by omega) (by omega))
    go_wp2_with fail
    refine hC.out.mono ?_
    rintro e x3 ⟨⟨sv, hsv, rfl⟩, hTx, hOx⟩
    have hsv' := Lib.hid (sml_mem (L := tVa17) rfl hsv)
    have hT3 := Lib.hid hTx
    have hO3 := Lib.hid (hO2.out.trans hOx)
    have hR3 := Lib.hid (hR2.out.only hOx (by omega))
    clear hTx hOx hsv hT2 hO2 hR2 hC
    have E := Lib.hid (term_out hR3.out hT3.out hO3.out (Nat.le_refl _) hlt (.int .i64 (17 + (y : Int))) (.string ⟨#[]⟩) (.int .i64 3) (.string sv))
    have f0 := hR3.out.frozen 0
    have f1 := hR3.out.frozen 1
    have f2 := hR3.out.frozen 2
    have f3 := hR3.out.frozen 3
    have g0 := hR3.out.cell 0
    have g1 := hR3.out.cell 1
    have g2 := hR3.out.cell 2
    have g3 := hR3.out.cell 3
    simp only [List.getElem?_toArray, List.getElem?_cons_zero, List.getElem?_cons_succ] at g0 g1 g2 g3
    clear hR3 hT3 hO3
    go_wp2_with fail
    exact bodyPost_ret (results_cell_row rfl _ _ w.heap.size 46 _ (0, 0) _ rfl E.out.1 Tryz.underlying46 rfl (by kernel_rfl)) rfl ⟨(17 + (y : Int)), ⟨#[]⟩, 3, sv, (q0 + 3), rfl, trivial, hsv'.out, by omega, E.out.2.1, E.out.2.2⟩
  · have hX : NK w B g ((q0 + 1)) w.heap.size x1 := ⟨hT1.out, hO1.out, hR1.out, by omega⟩
    clear hT1 hO1 hR1
    have nE : Hid (NK w B g ((q0 + 1)) w.heap.size x1.drew) := hX.drew
    have nA : Hid (NK w B g ((q0 + 1)) w.heap.size (x1.alloc (.cells #[.int .i64 3, .int .i64 6] 3)).drew) := (hX.alloc _).drew
    have nD : Hid (NK w B g ((q0 + 1)) w.heap.size (x1.alloc (.cells #[.string ⟨#[48, 54, 54, 48]⟩, .string ⟨#[54, 54, 54]⟩, .string ⟨#[57]⟩, .string ⟨#[36, 114, 101, 115, 117, 108, 116]⟩] 9)).drew) := (hX.alloc _).drew
    have nBb : Hid (NK w B g ((q0 + 1)) w.heap.size ((x1.alloc (.cells #[.int .i64 3, .int .i64 6] 3)).alloc (.cells #[.string ⟨#[48, 54, 54, 48]⟩, .string ⟨#[54, 54, 54]⟩, .string ⟨#[57]⟩, .string ⟨#[36, 114, 101, 115, 117, 108, 116]⟩] 9)).drew) := ((hX.alloc _).alloc _).drew
    have nC : Hid (NK w B g ((q0 + 1)) w.heap.size ((x1.alloc (.cells #[.string ⟨#[48, 54, 54, 48]⟩, .string ⟨#[54, 54, 54]⟩, .string ⟨#[57]⟩, .string ⟨#[36, 114, 101, 115, 117, 108, 116]⟩] 9)).alloc (.cells #[.int .i64 3, .int .i64 6] 3)).drew) := ((hX.alloc _).alloc _).drew
    have hgx : g < x1.heap.size := hX.tape.lt.2
    have hN : Hid (∀ Y, NK w B g ((q0 + 1)) w.heap.size Y → Calls Tryz.prog 16 #[.pointer (some ⟨g, 0, none⟩), .int .i64 2] Y fun e w' => (∃ r : Nat, r < 2 ∧ e = .returned (.int .i64 r)) ∧ NK w B g ((q0 + 1) + 1) w.heap.size w' ∧ Only (fun j => j = g) Y w') := fun Y h => nk_next 2 h (by omega) (by omega) (by omega)
    have hO : Hid (∀ Y m, NK w B g ((q0 + 1) + 1) w.heap.size Y → Blk Y m 9 #[.string ⟨#[48, 54, 54, 48]⟩, .string ⟨#[54, 54, 54]⟩, .string ⟨#[57]⟩, .string ⟨#[36, 114, 101, 115, 117, 108, 116]⟩] → m ≠ g → Calls Tryz.prog 20 #[.pointer (some ⟨g, 0, none⟩), .slice (some ⟨m, 0, none⟩) 4 4] Y fun e w' => (∃ s, s ∈ tVa19 ∧ e = .returned (.string s)) ∧ NK w B g ((q0 + 1) + 1 + 1) w.heap.size w' ∧ Only (fun j => j = g) Y w') := fun Y m h hs hm => nk_one tVa19 h (by omega) hs hm rfl (by omega) (by omega)
    have pA : Hid (∀ y, Only (fun j => j = g) (x1.alloc (.cells #[.int .i64 3, .int .i64 6] 3)).drew y → Blk y x1.heap.size 3 #[.int .i64 3, .int .i64 6]) := fun y h => Blk.call (w := (x1.alloc (.cells #[.int .i64 3, .int .i64 6] 3)).drew) (Blk.new _ _ _).drew h (by omega)
    have pD : Hid (∀ y, Only (fun j => j = g) (x1.alloc (.cells #[.string ⟨#[48, 54, 54, 48]⟩, .string ⟨#[54, 54, 54]⟩, .string ⟨#[57]⟩, .string ⟨#[36, 114, 101, 115, 117, 108, 116]⟩] 9)).drew y → Blk y x1.heap.size 9 #[.string ⟨#[48, 54, 54, 48]⟩, .string ⟨#[54, 54, 54]⟩, .string ⟨#[57]⟩, .string ⟨#[36, 114, 101, 115, 117, 108, 116]⟩]) := fun y h => Blk.call (w := (x1.alloc (.cells #[.string ⟨#[48, 54, 54, 48]⟩, .string ⟨#[54, 54, 54]⟩, .string ⟨#[57]⟩, .string ⟨#[36, 114, 101, 115, 117, 108, 116]⟩] 9)).drew) (Blk.new _ _ _).drew h (by omega)
    have pB : Hid (∀ y, Only (fun j => j = g) ((x1.alloc (.cells #[.int .i64 3, .int .i64 6] 3)).alloc (.cells #[.string ⟨#[48, 54, 54, 48]⟩, .string ⟨#[54, 54, 54]⟩, .string ⟨#[57]⟩, .string ⟨#[36, 114, 101, 115, 117, 108, 116]⟩] 9)).drew y → Blk y x1.heap.size 3 #[.int .i64 3, .int .i64 6] ∧ Blk y (x1.heap.size + 1) 9 #[.string ⟨#[48, 54, 54, 48]⟩, .string ⟨#[54, 54, 54]⟩, .string ⟨#[57]⟩, .string ⟨#[36, 114, 101, 115, 117, 108, 116]⟩]) := fun y h => ⟨Blk.call (w := ((x1.alloc (.cells #[.int .i64 3, .int .i64 6] 3)).alloc (.cells #[.string ⟨#[48, 54, 54, 48]⟩, .string ⟨#[54, 54, 54]⟩, .string ⟨#[57]⟩, .string ⟨#[36, 114, 101, 115, 117, 108, 116]⟩] 9)).drew) ((Blk.new _ _ _).alloc _).drew h (by omega), Blk.call (w := ((x1.alloc (.cells #[.int .i64 3, .int .i64 6] 3)).alloc (.cells #[.string ⟨#[48, 54, 54, 48]⟩, .string ⟨#[54, 54, 54]⟩, .string ⟨#[57]⟩, .string ⟨#[36, 114, 101, 115, 117, 108, 116]⟩] 9)).drew) (blk_new1 _ _ _ _).drew h (by omega)⟩
    have pC : Hid (∀ y, Only (fun j => j = g) ((x1.alloc (.cells #[.string ⟨#[48, 54, 54, 48]⟩, .string ⟨#[54, 54, 54]⟩, .string ⟨#[57]⟩, .string ⟨#[36, 114, 101, 115, 117, 108, 116]⟩] 9)).alloc (.cells #[.int .i64 3, .int .i64 6] 3)).drew y → Blk y (x1.heap.size + 1) 3 #[.int .i64 3, .int .i64 6] ∧ Blk y x1.heap.size 9 #[.string ⟨#[48, 54, 54, 48]⟩, .string ⟨#[54, 54, 54]⟩, .string ⟨#[57]⟩, .string ⟨#[36, 114, 101, 115, 117, 108, 116]⟩]) := fun y h => ⟨Blk.call (w := ((x1.alloc (.cells #[.string ⟨#[48, 54, 54, 48]⟩, .string ⟨#[54, 54, 54]⟩, .string ⟨#[57]⟩, .string ⟨#[36, 114, 101, 115, 117, 108, 116]⟩] 9)).alloc (.cells #[.int .i64 3, .int .i64 6] 3)).drew) (blk_new1 _ _ _ _).drew h (by omega), Blk.call (w := ((x1.alloc (.cells #[.string ⟨#[48, 54, 54, 48]⟩, .string ⟨#[54, 54, 54]⟩, .string ⟨#[57]⟩, .string ⟨#[36, 114, 101, 115, 117, 108, 116]⟩] 9)).alloc (.cells #[.int .i64 3, .int .i64 6] 3)).drew) ((Blk.new _ _ _).alloc _).drew h (by omega)⟩
    have hpk : Hid (∀ y : Nat, y < 2 → (#[.int .i64 3, .int .i64 6] : Array Value)[y]? = some (.int .i64 (opf2 y)) ∧ (∀ h : y < ([.int .i64 3, .int .i64 6] : List Value).length, ([.int .i64 3, .int .i64 6] : List Value)[y]'h = .int .i64 (opf2 y)) ∧ (0 : Int) ≤ (y : Int) ∧ (y : Int) < 2) := fun y hy => by
      rcases (by omega : y = 0 ∨ y = 1) with rfl | rfl <;> exact ⟨rfl, fun _ => rfl, by omega, by omega⟩
    have nx0 : x1.heap.size ≠ g := by omega
    have nx1 : x1.heap.size + 1 ≠ g := by omega
    have hge : Hid (∀ y, NK w B g ((q0 + 1) + 1) w.heap.size y → y.heap.size ≠ g ∧ y.heap.size + 1 ≠ g) := fun y h => by have := h.tape.lt; omega
    clear hX
    go_upto_region 17 with fail
    go_region_law (first | (go_simp; go_at_call 16; refine (hN.out _ ?_).mono ?_; (first | (with_reducible exact nE.out) | (with_reducible exact nA.out) | (with_reducible exact nD.out) | (with_reducible exact nBb.out) | (with_reducible exact nC.out)); rintro e y2 ⟨⟨y, hy, rfl⟩, hK2, hO2⟩; have pk := hpk.out y hy; have cL := pk.1; have cM := pk.2.1; have iy0 := pk.2.2.1; have iy1 := pk.2.2.2; have ne2 := (hge.out y2 hK2).1; have ne3 := (hge.out y2 hK2).2; (first | (have bI := (pB.out y2 hO2).1; have bS := (pB.out y2 hO2).2; have neI := nx0; have neS := nx1) | (have bI := (pC.out y2 hO2).1; have bS := (pC.out y2 hO2).2; have neI := nx1; have neS := nx0) | (have bI := pA.out y2 hO2; have neI := nx0) | (have bS := pD.out y2 hO2; have neS := nx0) | skip); (first | (have cI := (bI.cell y).trans cL; have zI := bI.lt) | skip)) | (go_simp; go_at_call 20; first | ((with_reducible show Calls _ _ _ y2 _); refine (hO.out y2 _ hK2 bS neS).mono ?_; rintro e y3 ⟨⟨sv, hsv, rfl⟩, hK3, hO3⟩; have r0 := hK3.cells; have r1 := r0.1.1; have r2 := r0.1.2.1; have r3 := r0.1.2.2.1; have r4 := r0.1.2.2.2; have r5 := r0.2.1; have r6 := r0.2.2.1; have r7 := r0.2.2.2.1; have r8 := r0.2.2.2.2.1; have r9 := r0.2.2.2.2.2; (first | (have bJ := bI.call hO3 neI; have cJ := (bJ.cell y).trans cL; have zJ := bJ.lt) | skip)) | ((with_reducible show Calls _ _ _ (y2.alloc (.cells #[.int .i64 3, .int .i64 6] 3)) _); refine (hO.out (y2.alloc (.cells #[.int .i64 3, .int .i64 6] 3)) _ (hK2.alloc _) (bS.alloc _) neS).mono ?_; rintro e y3 ⟨⟨sv, hsv, rfl⟩, hK3, hO3⟩; have r0 := hK3.cells; have r1 := r0.1.1; have r2 := r0.1.2.1; have r3 := r0.1.2.2.1; have r4 := r0.1.2.2.2; have r5 := r0.2.1; have r6 := r0.2.2.1; have r7 := r0.2.2.2.1; have r8 := r0.2.2.2.2.1; have r9 := r0.2.2.2.2.2; (first | (have bJ := (Blk.new y2 _ _).call hO3 ne2; have cJ := (bJ.cell y).trans cL; have zJ := bJ.lt) | skip)) | ((with_reducible show Calls _ _ _ (y2.alloc (.cells #[.string ⟨#[48, 54, 54, 48]⟩, .string ⟨#[54, 54, 54]⟩, .string ⟨#[57]⟩, .string ⟨#[36, 114, 101, 115, 117, 108, 116]⟩] 9)) _); refine (hO.out (y2.alloc (.cells #[.string ⟨#[48, 54, 54, 48]⟩, .string ⟨#[54, 54, 54]⟩, .string ⟨#[57]⟩, .string ⟨#[36, 114, 101, 115, 117, 108, 116]⟩] 9)) y2.heap.size (hK2.alloc _) (Blk.new y2 _ _) ne2).mono ?_; rintro e y3 ⟨⟨sv, hsv, rfl⟩, hK3, hO3⟩; have r0 := hK3.cells; have r1 := r0.1.1; have r2 := r0.1.2.1; have r3 := r0.1.2.2.1; have r4 := r0.1.2.2.2; have r5 := r0.2.1; have r6 := r0.2.2.1; have r7 := r0.2.2.2.1; have r8 := r0.2.2.2.2.1; have r9 := r0.2.2.2.2.2; (first | (have bJ := (bI.alloc _).call hO3 neI; have cJ := (bJ.cell y).trans cL; have zJ := bJ.lt) | skip)) | ((with_reducible show Calls _ _ _ ((y2.alloc (.cells #[.int .i64 3, .int .i64 6] 3)).alloc (.cells #[.string ⟨#[48, 54, 54, 48]⟩, .string ⟨#[54, 54, 54]⟩, .string ⟨#[57]⟩, .string ⟨#[36, 114, 101, 115, 117, 108, 116]⟩] 9)) _); refine (hO.out ((y2.alloc (.cells #[.int .i64 3, .int .i64 6] 3)).alloc (.cells #[.string ⟨#[48, 54, 54, 48]⟩, .string ⟨#[54, 54, 54]⟩, .string ⟨#[57]⟩, .string ⟨#[36, 114, 101, 115, 117, 108, 116]⟩] 9)) (y2.heap.size + 1) ((hK2.alloc _).alloc _) (blk_new1 y2 _ _ _) ne3).mono ?_; rintro e y3 ⟨⟨sv, hsv, rfl⟩, hK3, hO3⟩; have r0 := hK3.cells; have r1 := r0.1.1; have r2 := r0.1.2.1; have r3 := r0.1.2.2.1; have r4 := r0.1.2.2.2; have r5 := r0.2.1; have r6 := r0.2.2.1; have r7 := r0.2.2.2.1; have r8 := r0.2.2.2.2.1; have r9 := r0.2.2.2.2.2; (first | (have bJ := ((Blk.new y2 _ _).alloc _).call hO3 ne2; have cJ := (bJ.cell y).trans cL; have zJ := bJ.lt) | skip)) | ((with_reducible show Calls _ _ _ ((y2.alloc (.cells #[.string ⟨#[48, 54, 54, 48]⟩, .string ⟨#[54, 54, 54]⟩, .string ⟨#[57]⟩, .string ⟨#[36, 114, 101, 115, 117, 108, 116]⟩] 9)).alloc (.cells #[.int .i64 3, .int .i64 6] 3)) _); refine (hO.out ((y2.alloc (.cells #[.string ⟨#[48, 54, 54, 48]⟩, .string ⟨#[54, 54, 54]⟩, .string ⟨#[57]⟩, .string ⟨#[36, 114, 101, 115, 117, 108, 116]⟩] 9)).alloc (.cells #[.int .i64 3, .int .i64 6] 3)) y2.heap.size ((hK2.alloc _).alloc _) ((Blk.new y2 _ _).alloc _) ne2).mono ?_; rintro e y3 ⟨⟨sv, hsv, rfl⟩, hK3, hO3⟩; have r0 := hK3.cells; have r1 := r0.1.1; have r2 := r0.1.2.1; have r3 := r0.1.2.2.1; have r4 := r0.1.2.2.2; have r5 := r0.2.1; have r6 := r0.2.2.1; have r7 := r0.2.2.2.1; have r8 := r0.2.2.2.2.1; have r9 := r0.2.2.2.2.2; (first | (have bJ := (blk_new1 y2 _ _ _).call hO3 ne3; have cJ := (bJ.cell y).trans cL; have zJ := bJ.lt) | skip))))
    all_goals
      have hF := nk_fin (n := ⟨#[]⟩) (o := opf2 y) (k := 19) (v := sv) hK3 hlt
      have F1 := Lib.hid hF.1
      have F2 := Lib.hid hF.2.1
      have F3 := Lib.hid hF.2.2
      have F4 := Lib.hid (sml_mem (L := tVa19) rfl hsv)
      clear hF hK3 hO3 hsv hK2 hO2 nE nA nD nBb nC hN hO pA pB pC pD hpk hge
      go_wp2_with fail
      first
        | exact bodyPost_ret (results_cell_row rfl _ _ w.heap.size 46 _ (0, 0) _ rfl F1.out Tryz.underlying46 rfl (by kernel_rfl)) rfl ⟨19, ⟨#[]⟩, opf2 y, sv, (q0 + 1) + 1 + 1, rfl, trivial, F4.out, by omega, F2.out, F3.out⟩
        | exact bodyPost_ret (results_cell_row rfl _ _ w.heap.size 46 _ (0, 0) _ rfl (F1.out.alloc _) Tryz.underlying46 rfl (by kernel_rfl)) rfl ⟨19, ⟨#[]⟩, opf2 y, sv, (q0 + 1) + 1 + 1, rfl, trivial, F4.out, by omega, F2.out.below ((Below.refl _ _).alloc (Nat.le_refl _) _), F3.out.alloc _⟩
  · have hX : NK w B g ((q0 + 1)) w.heap.size x1 := ⟨hT1.out, hO1.out, hR1.out, by omega⟩
    clear hT1 hO1 hR1
    have nE : Hid (NK w B g ((q0 + 1)) w.heap.size x1.drew) := hX.drew
    have nA : Hid (NK w B g ((q0 + 1)) w.heap.size (x1.alloc (.cells #[.int .i64 3, .int .i64 4, .int .i64 6] 3)).drew) := (hX.alloc _).drew
    have nD : Hid (NK w B g ((q0 + 1)) w.heap.size (x1.alloc (.cells #[.string ⟨#[97, 99, 116, 32, 37, 107]⟩, .string ⟨#[]⟩, .string ⟨#[108, 111, 103]⟩] 9)).drew) := (hX.alloc _).drew
    have nBb : Hid (NK w B g ((q0 + 1)) w.heap.size ((x1.alloc (.cells #[.int .i64 3, .int .i64 4, .int .i64 6] 3)).alloc (.cells #[.string ⟨#[97, 99, 116, 32, 37, 107]⟩, .string ⟨#[]⟩, .string ⟨#[108, 111, 103]⟩] 9)).drew) := ((hX.alloc _).alloc _).drew
    have nC : Hid (NK w B g ((q0 + 1)) w.heap.size ((x1.alloc (.cells #[.string ⟨#[97, 99, 116, 32, 37, 107]⟩, .string ⟨#[]⟩, .string ⟨#[108, 111, 103]⟩] 9)).alloc (.cells #[.int .i64 3, .int .i64 4, .int .i64 6] 3)).drew) := ((hX.alloc _).alloc _).drew
    have hgx : g < x1.heap.size := hX.tape.lt.2
    have hN : Hid (∀ Y, NK w B g ((q0 + 1)) w.heap.size Y → Calls Tryz.prog 16 #[.pointer (some ⟨g, 0, none⟩), .int .i64 3] Y fun e w' => (∃ r : Nat, r < 3 ∧ e = .returned (.int .i64 r)) ∧ NK w B g ((q0 + 1) + 1) w.heap.size w' ∧ Only (fun j => j = g) Y w') := fun Y h => nk_next 3 h (by omega) (by omega) (by omega)
    have hO : Hid (∀ Y m, NK w B g ((q0 + 1) + 1) w.heap.size Y → Blk Y m 9 #[.string ⟨#[97, 99, 116, 32, 37, 107]⟩, .string ⟨#[]⟩, .string ⟨#[108, 111, 103]⟩] → m ≠ g → Calls Tryz.prog 20 #[.pointer (some ⟨g, 0, none⟩), .slice (some ⟨m, 0, none⟩) 3 3] Y fun e w' => (∃ s, s ∈ tVa20 ∧ e = .returned (.string s)) ∧ NK w B g ((q0 + 1) + 1 + 1) w.heap.size w' ∧ Only (fun j => j = g) Y w') := fun Y m h hs hm => nk_one tVa20 h (by omega) hs hm rfl (by omega) (by omega)
    have pA : Hid (∀ y, Only (fun j => j = g) (x1.alloc (.cells #[.int .i64 3, .int .i64 4, .int .i64 6] 3)).drew y → Blk y x1.heap.size 3 #[.int .i64 3, .int .i64 4, .int .i64 6]) := fun y h => Blk.call (w := (x1.alloc (.cells #[.int .i64 3, .int .i64 4, .int .i64 6] 3)).drew) (Blk.new _ _ _).drew h (by omega)
    have pD : Hid (∀ y, Only (fun j => j = g) (x1.alloc (.cells #[.string ⟨#[97, 99, 116, 32, 37, 107]⟩, .string ⟨#[]⟩, .string ⟨#[108, 111, 103]⟩] 9)).drew y → Blk y x1.heap.size 9 #[.string ⟨#[97, 99, 116, 32, 37, 107]⟩, .string ⟨#[]⟩, .string ⟨#[108, 111, 103]⟩]) := fun y h => Blk.call (w := (x1.alloc (.cells #[.string ⟨#[97, 99, 116, 32, 37, 107]⟩, .string ⟨#[]⟩, .string ⟨#[108, 111, 103]⟩] 9)).drew) (Blk.new _ _ _).drew h (by omega)
    have pB : Hid (∀ y, Only (fun j => j = g) ((x1.alloc (.cells #[.int .i64 3, .int .i64 4, .int .i64 6] 3)).alloc (.cells #[.string ⟨#[97, 99, 116, 32, 37, 107]⟩, .string ⟨#[]⟩, .string ⟨#[108, 111, 103]⟩] 9)).drew y → Blk y x1.heap.size 3 #[.int .i64 3, .int .i64 4, .int .i64 6] ∧ Blk y (x1.heap.size + 1) 9 #[.string ⟨#[97, 99, 116, 32, 37, 107]⟩, .string ⟨#[]⟩, .string ⟨#[108, 111, 103]⟩]) := fun y h => ⟨Blk.call (w := ((x1.alloc (.cells #[.int .i64 3, .int .i64 4, .int .i64 6] 3)).alloc (.cells #[.string ⟨#[97, 99, 116, 32, 37, 107]⟩, .string ⟨#[]⟩, .string ⟨#[108, 111, 103]⟩] 9)).drew) ((Blk.new _ _ _).alloc _).drew h (by omega), Blk.call (w := ((x1.alloc (.cells #[.int .i64 3, .int .i64 4, .int .i64 6] 3)).alloc (.cells #[.string ⟨#[97, 99, 116, 32, 37, 107]⟩, .string ⟨#[]⟩, .string ⟨#[108, 111, 103]⟩] 9)).drew) (blk_new1 _ _ _ _).drew h (by omega)⟩
    have pC : Hid (∀ y, Only (fun j => j = g) ((x1.alloc (.cells #[.string ⟨#[97, 99, 116, 32, 37, 107]⟩, .string ⟨#[]⟩, .string ⟨#[108, 111, 103]⟩] 9)).alloc (.cells #[.int .i64 3, .int .i64 4, .int .i64 6] 3)).drew y → Blk y (x1.heap.size + 1) 3 #[.int .i64 3, .int .i64 4, .int .i64 6] ∧ Blk y x1.heap.size 9 #[.string ⟨#[97, 99, 116, 32, 37, 107]⟩, .string ⟨#[]⟩, .string ⟨#[108, 111, 103]⟩]) := fun y h => ⟨Blk.call (w := ((x1.alloc (.cells #[.string ⟨#[97, 99, 116, 32, 37, 107]⟩, .string ⟨#[]⟩, .string ⟨#[108, 111, 103]⟩] 9)).alloc (.cells #[.int .i64 3, .int .i64 4, .int .i64 6] 3)).drew) (blk_new1 _ _ _ _).drew h (by omega), Blk.call (w := ((x1.alloc (.cells #[.string ⟨#[97, 99, 116, 32, 37, 107]⟩, .string ⟨#[]⟩, .string ⟨#[108, 111, 103]⟩] 9)).alloc (.cells #[.int .i64 3, .int .i64 4, .int .i64 6] 3)).drew) ((Blk.new _ _ _).alloc _).drew h (by omega)⟩
    have hpk : Hid (∀ y : Nat, y < 3 → (#[.int .i64 3, .int .i64 4, .int .i64 6] : Array Value)[y]? = some (.int .i64 (opf3 y)) ∧ (∀ h : y < ([.int .i64 3, .int .i64 4, .int .i64 6] : List Value).length, ([.int .i64 3, .int .i64 4, .int .i64 6] : List Value)[y]'h = .int .i64 (opf3 y)) ∧ (0 : Int) ≤ (y : Int) ∧ (y : Int) < 3) := fun y hy => by
      rcases (by omega : y = 0 ∨ y = 1 ∨ y = 2) with rfl | rfl | rfl <;> exact ⟨rfl, fun _ => rfl, by omega, by omega⟩
    have nx0 : x1.heap.size ≠ g := by omega
    have nx1 : x1.heap.size + 1 ≠ g := by omega
    have hge : Hid (∀ y, NK w B g ((q0 + 1) + 1) w.heap.size y → y.heap.size ≠ g ∧ y.heap.size + 1 ≠ g) := fun y h => by have := h.tape.lt; omega
    clear hX
    go_upto_region 22 with fail
    go_region_law (first | (go_simp; go_at_call 16; refine (hN.out _ ?_).mono ?_; (first | (with_reducible exact nE.out) | (with_reducible exact nA.out) | (with_reducible exact nD.out) | (with_reducible exact nBb.out) | (with_reducible exact nC.out)); rintro e y2 ⟨⟨y, hy, rfl⟩, hK2, hO2⟩; have pk := hpk.out y hy; have cL := pk.1; have cM := pk.2.1; have iy0 := pk.2.2.1; have iy1 := pk.2.2.2; have ne2 := (hge.out y2 hK2).1; have ne3 := (hge.out y2 hK2).2; (first | (have bI := (pB.out y2 hO2).1; have bS := (pB.out y2 hO2).2; have neI := nx0; have neS := nx1) | (have bI := (pC.out y2 hO2).1; have bS := (pC.out y2 hO2).2; have neI := nx1; have neS := nx0) | (have bI := pA.out y2 hO2; have neI := nx0) | (have bS := pD.out y2 hO2; have neS := nx0) | skip); (first | (have cI := (bI.cell y).trans cL; have zI := bI.lt) | skip)) | (go_simp; go_at_call 20; first | ((with_reducible show Calls _ _ _ y2 _); refine (hO.out y2 _ hK2 bS neS).mono ?_; rintro e y3 ⟨⟨sv, hsv, rfl⟩, hK3, hO3⟩; have r0 := hK3.cells; have r1 := r0.1.1; have r2 := r0.1.2.1; have r3 := r0.1.2.2.1; have r4 := r0.1.2.2.2; have r5 := r0.2.1; have r6 := r0.2.2.1; have r7 := r0.2.2.2.1; have r8 := r0.2.2.2.2.1; have r9 := r0.2.2.2.2.2; (first | (have bJ := bI.call hO3 neI; have cJ := (bJ.cell y).trans cL; have zJ := bJ.lt) | skip)) | ((with_reducible show Calls _ _ _ (y2.alloc (.cells #[.int .i64 3, .int .i64 4, .int .i64 6] 3)) _); refine (hO.out (y2.alloc (.cells #[.int .i64 3, .int .i64 4, .int .i64 6] 3)) _ (hK2.alloc _) (bS.alloc _) neS).mono ?_; rintro e y3 ⟨⟨sv, hsv, rfl⟩, hK3, hO3⟩; have r0 := hK3.cells; have r1 := r0.1.1; have r2 := r0.1.2.1; have r3 := r0.1.2.2.1; have r4 := r0.1.2.2.2; have r5 := r0.2.1; have r6 := r0.2.2.1; have r7 := r0.2.2.2.1; have r8 := r0.2.2.2.2.1; have r9 := r0.2.2.2.2.2; (first | (have bJ := (Blk.new y2 _ _).call hO3 ne2; have cJ := (bJ.cell y).trans cL; have zJ := bJ.lt) | skip)) | ((with_reducible show Calls _ _ _ (y2.alloc (.cells #[.string ⟨#[97, 99, 116, 32, 37, 107]⟩, .string ⟨#[]⟩, .string ⟨#[108, 111, 103]⟩] 9)) _); refine (hO.out (y2.alloc (.cells #[.string ⟨#[97, 99, 116, 32, 37, 107]⟩, .string ⟨#[]⟩, .string ⟨#[108, 111, 103]⟩] 9)) y2.heap.size (hK2.alloc _) (Blk.new y2 _ _) ne2).mono ?_; rintro e y3 ⟨⟨sv, hsv, rfl⟩, hK3, hO3⟩; have r0 := hK3.cells; have r1 := r0.1.1; have r2 := r0.1.2.1; have r3 := r0.1.2.2.1; have r4 := r0.1.2.2.2; have r5 := r0.2.1; have r6 := r0.2.2.1; have r7 := r0.2.2.2.1; have r8 := r0.2.2.2.2.1; have r9 := r0.2.2.2.2.2; (first | (have bJ := (bI.alloc _).call hO3 neI; have cJ := (bJ.cell y).trans cL; have zJ := bJ.lt) | skip)) | ((with_reducible show Calls _ _ _ ((y2.alloc (.cells #[.int .i64 3, .int .i64 4, .int .i64 6] 3)).alloc (.cells #[.string ⟨#[97, 99, 116, 32, 37, 107]⟩, .string ⟨#[]⟩, .string ⟨#[108, 111, 103]⟩] 9)) _); refine (hO.out ((y2.alloc (.cells #[.int .i64 3, .int .i64 4, .int .i64 6] 3)).alloc (.cells #[.string ⟨#[97, 99, 116, 32, 37, 107]⟩, .string ⟨#[]⟩, .string ⟨#[108, 111, 103]⟩] 9)) (y2.heap.size + 1) ((hK2.alloc _).alloc _) (blk_new1 y2 _ _ _) ne3).mono ?_; rintro e y3 ⟨⟨sv, hsv, rfl⟩, hK3, hO3⟩; have r0 := hK3.cells; have r1 := r0.1.1; have r2 := r0.1.2.1; have r3 := r0.1.2.2.1; have r4 := r0.1.2.2.2; have r5 := r0.2.1; have r6 := r0.2.2.1; have r7 := r0.2.2.2.1; have r8 := r0.2.2.2.2.1; have r9 := r0.2.2.2.2.2; (first | (have bJ := ((Blk.new y2 _ _).alloc _).call hO3 ne2; have cJ := (bJ.cell y).trans cL; have zJ := bJ.lt) | skip)) | ((with_reducible show Calls _ _ _ ((y2.alloc (.cells #[.string ⟨#[97, 99, 116, 32, 37, 107]⟩, .string ⟨#[]⟩, .string ⟨#[108, 111, 103]⟩] 9)).alloc (.cells #[.int .i64 3, .int .i64 4, .int .i64 6] 3)) _); refine (hO.out ((y2.alloc (.cells #[.string ⟨#[97, 99, 116, 32, 37, 107]⟩, .string ⟨#[]⟩, .string ⟨#[108, 111, 103]⟩] 9)).alloc (.cells #[.int .i64 3, .int .i64 4, .int .i64 6] 3)) y2.heap.size ((hK2.alloc _).alloc _) ((Blk.new y2 _ _).alloc _) ne2).mono ?_; rintro e y3 ⟨⟨sv, hsv, rfl⟩, hK3, hO3⟩; have r0 := hK3.cells; have r1 := r0.1.1; have r2 := r0.1.2.1; have r3 := r0.1.2.2.1; have r4 := r0.1.2.2.2; have r5 := r0.2.1; have r6 := r0.2.2.1; have r7 := r0.2.2.2.1; have r8 := r0.2.2.2.2.1; have r9 := r0.2.2.2.2.2; (first | (have bJ := (blk_new1 y2 _ _ _).call hO3 ne3; have cJ := (bJ.cell y).trans cL; have zJ := bJ.lt) | skip))))
    all_goals
      have hF := nk_fin (n := ⟨#[]⟩) (o := opf3 y) (k := 20) (v := sv) hK3 hlt
      have F1 := Lib.hid hF.1
      have F2 := Lib.hid hF.2.1
      have F3 := Lib.hid hF.2.2
      have F4 := Lib.hid (sml_mem (L := tVa20) rfl hsv)
      clear hF hK3 hO3 hsv hK2 hO2 nE nA nD nBb nC hN hO pA pB pC pD hpk hge
      go_wp2_with fail
      first
        | exact bodyPost_ret (results_cell_row rfl _ _ w.heap.size 46 _ (0, 0) _ rfl F1.out Tryz.underlying46 rfl (by kernel_rfl)) rfl ⟨20, ⟨#[]⟩, opf3 y, sv, (q0 + 1) + 1 + 1, rfl, trivial, F4.out, by omega, F2.out, F3.out⟩
        | exact bodyPost_ret (results_cell_row rfl _ _ w.heap.size 46 _ (0, 0) _ rfl (F1.out.alloc _) Tryz.underlying46 rfl (by kernel_rfl)) rfl ⟨20, ⟨#[]⟩, opf3 y, sv, (q0 + 1) + 1 + 1, rfl, trivial, F4.out, by omega, F2.out.below ((Below.refl _ _).alloc (Nat.le_refl _) _), F3.out.alloc _⟩
  · have hC := Lib.hid (one_new B g (q0 + 1) 4 4 tVa21 _ hT1.out (by omega) rfl (by omega) (by omega))
    go_wp2_with fail
    refine hC.out.mono ?_
    rintro e x2 ⟨⟨sv, hsv, rfl⟩, hTx, hOx⟩
    have hsv' := Lib.hid (sml_mem (L := tVa21) rfl hsv)
    have hT2 := Lib.hid hTx
    have hO2 := Lib.hid (hO1.out.trans hOx)
    have hR2 := Lib.hid (hR1.out.only hOx (by omega))
    clear hTx hOx hsv hT1 hO1 hR1 hC
    have E := Lib.hid (term_out hR2.out hT2.out hO2.out (Nat.le_refl _) hlt (.int .i64 21) (.string ⟨#[]⟩) (.int .i64 4) (.string sv))
    have f0 := hR2.out.frozen 0
    have f1 := hR2.out.frozen 1
    have f2 := hR2.out.frozen 2
    have f3 := hR2.out.frozen 3
    have g0 := hR2.out.cell 0
    have g1 := hR2.out.cell 1
    have g2 := hR2.out.cell 2
    have g3 := hR2.out.cell 3
    simp only [List.getElem?_toArray, List.getElem?_cons_zero, List.getElem?_cons_succ] at g0 g1 g2 g3
    clear hR2 hT2 hO2
    go_wp2_with fail
    exact bodyPost_ret (results_cell_row rfl _ _ w.heap.size 46 _ (0, 0) _ rfl E.out.1 Tryz.underlying46 rfl (by kernel_rfl)) rfl ⟨21, ⟨#[]⟩, 4, sv, (q0 + 2), rfl, trivial, hsv'.out, by omega, E.out.2.1, E.out.2.2⟩
  · have hC := Lib.hid (one_new B g (q0 + 1) 4 4 tVa21 _ hT1.out (by omega) rfl (by omega) (by omega))
    go_wp2_with fail
    refine hC.out.mono ?_
    rintro e x2 ⟨⟨sv, hsv, rfl⟩, hTx, hOx⟩
    have hsv' := Lib.hid (sml_mem (L := tVa21) rfl hsv)
    have hT2 := Lib.hid hTx
    have hO2 := Lib.hid (hO1.out.trans hOx)
    have hR2 := Lib.hid (hR1.out.only hOx (by omega))
    clear hTx hOx hsv hT1 hO1 hR1 hC
    have E := Lib.hid (term_out hR2.out hT2.out hO2.out (Nat.le_refl _) hlt (.int .i64 21) (.string ⟨#[]⟩) (.int .i64 4) (.string sv))
    have f0 := hR2.out.frozen 0
    have f1 := hR2.out.frozen 1
    have f2 := hR2.out.frozen 2
    have f3 := hR2.out.frozen 3
    have g0 := hR2.out.cell 0
    have g1 := hR2.out.cell 1
    have g2 := hR2.out.cell 2
    have g3 := hR2.out.cell 3
    simp only [List.getElem?_toArray, List.getElem?_cons_zero, List.getElem?_cons_succ] at g0 g1 g2 g3
    clear hR2 hT2 hO2
    go_wp2_with fail
    exact bodyPost_ret (results_cell_row rfl _ _ w.heap.size 46 _ (0, 0) _ rfl E.out.1 Tryz.underlying46 rfl (by kernel_rfl)) rfl ⟨21, ⟨#[]⟩, 4, sv, (q0 + 2), rfl, trivial, hsv'.out, by omega, E.out.2.1, E.out.2.2⟩
  · have hC := Lib.hid (one_new B g (q0 + 1) 4 4 tVa22 _ hT1.out (by omega) rfl (by omega) (by omega))
    go_wp2_with fail
    refine hC.out.mono ?_
    rintro e x2 ⟨⟨sv, hsv, rfl⟩, hTx, hOx⟩
    have hsv' := Lib.hid (sml_mem (L := tVa22) rfl hsv)
    have hT2 := Lib.hid hTx
    have hO2 := Lib.hid (hO1.out.trans hOx)
    have hR2 := Lib.hid (hR1.out.only hOx (by omega))
    clear hTx hOx hsv hT1 hO1 hR1 hC
    have E := Lib.hid (term_out hR2.out hT2.out hO2.out (Nat.le_refl _) hlt (.int .i64 22) (.string ⟨#[]⟩) (.int .i64 3) (.string sv))
    have f0 := hR2.out.frozen 0
    have f1 := hR2.out.frozen 1
    have f2 := hR2.out.frozen 2
    have f3 := hR2.out.frozen 3
    have g0 := hR2.out.cell 0
    have g1 := hR2.out.cell 1
    have g2 := hR2.out.cell 2
    have g3 := hR2.out.cell 3
    simp only [List.getElem?_toArray, List.getElem?_cons_zero, List.getElem?_cons_succ] at g0 g1 g2 g3
    clear hR2 hT2 hO2
    go_wp2_with fail
    exact bodyPost_ret (results_cell_row rfl _ _ w.heap.size 46 _ (0, 0) _ rfl E.out.1 Tryz.underlying46 rfl (by kernel_rfl)) rfl ⟨22, ⟨#[]⟩, 3, sv, (q0 + 2), rfl, trivial, hsv'.out, by omega, E.out.2.1, E.out.2.2⟩

set_option maxRecDepth 100000 in
set_option maxHeartbeats 1000000 in
theorem mterm_any (B g q0 : Nat) (w : World) (hT0 : Tape w B g q0) (hq0 : q0 ≤ 90000) :
    Calls Tryz.prog 19 #[.pointer (some ⟨g, 0, none⟩)] w fun e w' => ∃ (k : Int) (n : ByteArray) (o : Int) (v : ByteArray) (q : Nat), e = .returned (termV k n o v) ∧ v.size ≤ 100 ∧ q ≤ q0 + 7 ∧ Tape w' B g q ∧ Only (fun j => j = g) w w' := by
  have hlt : g < w.heap.size := hT0.lt.2
  have hO : Hid (Only (fun j => j = g) w (w.alloc (.cells #[.int .i64 0, .string ⟨#[]⟩, .int .i64 0, .string ⟨#[]⟩] 46))) := (Only.refl _ _).alloc _
  have hT : Hid (Tape (w.alloc (.cells #[.int .i64 0, .string ⟨#[]⟩, .int .i64 0, .string ⟨#[]⟩] 46)) B g q0) := hT0.below ((Below.refl _ _).alloc (Nat.le_refl _) _)
  have hR : Hid (Blk (w.alloc (.cells #[.int .i64 0, .string ⟨#[]⟩, .int .i64 0, .string ⟨#[]⟩] 46)) w.heap.size 46 #[.int .i64 0, .string ⟨#[]⟩, .int .i64 0, .string ⟨#[]⟩]) := Blk.new _ _ _
  clear hT0
  have hC := Lib.hid (next_any B g q0 8 _ hT.out (by omega) (by omega) (by omega))
  go_enter Tryz.func19, Tryz.ntmps19
  go_wp2_with fail
  refine hC.out.mono ?_
  rintro e x1 ⟨⟨r, hr, rfl⟩, hTx, hOx⟩
  have hT1 := Lib.hid hTx
  have hO1 := Lib.hid (hO.out.trans hOx)
  have hR1 := Lib.hid (hR.out.only hOx (by omega))
  clear hTx hOx hC hT hO hR
  by_cases r0 : r = 0
  · subst r0
    have hA := Lib.hid (massigns_any B g (q0 + 1) x1 hT1.out (by omega))
    go_wp2_with fail
    refine hA.out.mono ?_
    rintro e x2 ⟨k, n, o, v, q, rfl, _, hv, hq, hTx, hOx⟩
    have hv' := Lib.hid hv
    have hT3 := Lib.hid hTx
    have hO3 := Lib.hid (hO1.out.trans hOx)
    have hR3 := Lib.hid (hR1.out.only hOx (by omega))
    clear hv hTx hOx hT1 hO1 hR1 hA
    have E := Lib.hid (term_out hR3.out hT3.out hO3.out (Nat.le_refl _) hlt (.int .i64 k) (.string n) (.int .i64 o) (.string v))
    have f0 := hR3.out.frozen 0
    have f1 := hR3.out.frozen 1
    have f2 := hR3.out.frozen 2
    have f3 := hR3.out.frozen 3
    have g0 := hR3.out.cell 0
    have g1 := hR3.out.cell 1
    have g2 := hR3.out.cell 2
    have g3 := hR3.out.cell 3
    simp only [List.getElem?_toArray, List.getElem?_cons_zero, List.getElem?_cons_succ] at g0 g1 g2 g3
    clear hR3 hT3 hO3
    unfold termV
    go_wp2_with fail
    exact bodyPost_ret (results_cell_row rfl _ _ w.heap.size 46 _ (0, 0) _ rfl E.out.1 Tryz.underlying46 rfl (by kernel_rfl)) rfl ⟨k, n, o, v, q, rfl, hv'.out, by omega, E.out.2.1, E.out.2.2⟩
  · have ir : ¬ (r : Int) = 0 := by omega
    have hA := Lib.hid (mmatches_any B g (q0 + 1) x1 hT1.out (by omega))
    go_wp2_with fail
    refine hA.out.mono ?_
    rintro e x2 ⟨k, n, o, v, q, rfl, _, hv, hq, hTx, hOx⟩
    have hv' := Lib.hid hv
    have hT3 := Lib.hid hTx
    have hO3 := Lib.hid (hO1.out.trans hOx)
    have hR3 := Lib.hid (hR1.out.only hOx (by omega))
    clear hv hTx hOx hT1 hO1 hR1 hA
    have E := Lib.hid (term_out hR3.out hT3.out hO3.out (Nat.le_refl _) hlt (.int .i64 k) (.string n) (.int .i64 o) (.string v))
    have f0 := hR3.out.frozen 0
    have f1 := hR3.out.frozen 1
    have f2 := hR3.out.frozen 2
    have f3 := hR3.out.frozen 3
    have g0 := hR3.out.cell 0
    have g1 := hR3.out.cell 1
    have g2 := hR3.out.cell 2
    have g3 := hR3.out.cell 3
    simp only [List.getElem?_toArray, List.getElem?_cons_zero, List.getElem?_cons_succ] at g0 g1 g2 g3
    clear hR3 hT3 hO3
    unfold termV
    go_wp2_with fail
    exact bodyPost_ret (results_cell_row rfl _ _ w.heap.size 46 _ (0, 0) _ rfl E.out.1 Tryz.underlying46 rfl (by kernel_rfl)) rfl ⟨k, n, o, v, q, rfl, hv'.out, by omega, E.out.2.1, E.out.2.2⟩
end Go.Proofs.YtinjeijjfkkhbaaGreatDoor
