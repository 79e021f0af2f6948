/-
  THE WALKS of what terms look at, and of match.Device.
-/
import Derived.Test.YtinjeijjfkkhbaaGreatDoorMatchHolds
namespace Go.Proofs.YtinjeijjfkkhbaaGreatDoor
open Go.RowKit

/-- A device as a value. -/
def devV (d : Dev) : Value := .agg #[.int .i64 d.idx, .int .i64 d.par, .string d.name, .string d.orig, .string d.sub, .string d.drv, .string d.ali, .int .i64 d.kind, .int .i64 d.num, .slice d.aa d.an d.ac]

theorem neq_func (j : FuncId) (W : World) : (binOp .neq 74 (.func (.func j) #[] #[]) .nilFunc).run Tryz.prog W = .ok (.bool true) W := by kernel_rfl
theorem neq_nil (W : World) : (binOp .neq 74 .nilFunc .nilFunc).run Tryz.prog W = .ok (.bool false) W := by kernel_rfl
attribute [local go_sem] neq_func neq_nil

set_option maxRecDepth 100000 in
theorem look1_any (k : Int) (n : ByteArray) (o : Int) (v : ByteArray) (d : Dev) (w : World) : Calls Tryz.prog 72 #[termV k n o v, devV d] w fun e w' => e = .returned (.string d.orig) ∧ Below w.heap.size w w' := by
  unfold termV devV
  go_enter Tryz.func72, Tryz.ntmps72
  go_wp2_with fail
  go_ret
  exact ⟨rfl, ((Below.refl _ _).alloc (Nat.le_refl _) _).alloc (by simp) _⟩
set_option maxRecDepth 100000 in
theorem look2_any (k : Int) (n : ByteArray) (o : Int) (v : ByteArray) (d : Dev) (w : World) : Calls Tryz.prog 73 #[termV k n o v, devV d] w fun e w' => e = .returned (.string d.sub) ∧ Below w.heap.size w w' := by
  unfold termV devV
  go_enter Tryz.func73, Tryz.ntmps73
  go_wp2_with fail
  go_ret
  exact ⟨rfl, ((Below.refl _ _).alloc (Nat.le_refl _) _).alloc (by simp) _⟩
set_option maxRecDepth 100000 in
theorem look3_any (k : Int) (n : ByteArray) (o : Int) (v : ByteArray) (d : Dev) (w : World) : Calls Tryz.prog 74 #[termV k n o v, devV d] w fun e w' => e = .returned (.string d.drv) ∧ Below w.heap.size w w' := by
  unfold termV devV
  go_enter Tryz.func74, Tryz.ntmps74
  go_wp2_with fail
  go_ret
  exact ⟨rfl, ((Below.refl _ _).alloc (Nat.le_refl _) _).alloc (by simp) _⟩
set_option maxRecDepth 100000 in
theorem look4_any (k : Int) (n : ByteArray) (o : Int) (v : ByteArray) (d : Dev) (w : World) (hd : DevAt w d) : Calls Tryz.prog 75 #[termV k n o v, devV d] w fun e w' => e = .returned (.string (getS d.att n).1) ∧ Below w.heap.size w w' := by
  unfold termV devV
  have hbt : Below w.heap.size w ((w.alloc (.cells #[.int .i64 k, .string n, .int .i64 o, .string v] 46)).alloc (.cells #[.int .i64 d.idx, .int .i64 d.par, .string d.name, .string d.orig, .string d.sub, .string d.drv, .string d.ali, .int .i64 d.kind, .int .i64 d.num, .slice d.aa d.an d.ac] 40)) := ((Below.refl _ _).alloc (Nat.le_refl _) _).alloc (by simp) _
  have hG := Lib.hid (get_any d.att (.slice d.aa d.an d.ac) n _ (hd.below hbt))
  have hb' := Lib.hid hbt; clear hbt hd
  go_enter Tryz.func75, Tryz.ntmps75
  go_wp2_with fail
  refine hG.out.mono ?_
  rintro e v1 ⟨rfl, hb1⟩
  have hb2 := Lib.hid (hb'.out.trans (hb1.mono hb'.out.size)); clear hb1
  go_wp2_with fail
  go_ret
  exact ⟨rfl, hb2.out⟩

set_option maxRecDepth 100000 in
set_option maxHeartbeats 4000000 in
theorem dev_core (g : Nat) (hgf : g = 72 ∨ g = 73 ∨ g = 74 ∨ g = 75) (st up : Bool) (k : Int) (n : ByteArray) (o : Int) (v : ByteArray) (d : Dev) (val : ByteArray) (b : Bool) (w : World)
    (hof : ∀ W, Calls Tryz.prog 31 #[termV k n o v] W fun e w' => e = .returned (.agg #[.bool st, .bool up, .func (.func g) #[] #[]]) ∧ Below W.heap.size W w')
    (hval : ∀ W, Below w.heap.size w W → Calls Tryz.prog g #[termV k n o v, devV d] W fun e w' => e = .returned (.string val) ∧ Below W.heap.size W w')
    (hh : ∀ W, Calls Tryz.prog 32 #[termV k n o v, .string val] W fun e w' => e = .returned (.bool b) ∧ Below W.heap.size W w') :
    Calls Tryz.prog 14 #[termV k n o v, devV d] w fun e w' => e = .returned (.bool b) ∧ Below w.heap.size w w' := by
  obtain ⟨x0, x1, x2, x3, x4, x5, x6, x7, x8, xa, xn, xc, xt⟩ := d
  unfold termV devV at *
  simp only at hval ⊢
  have hof' := Lib.hid hof; clear hof
  have hval' := Lib.hid hval; clear hval
  have hh' := Lib.hid hh; clear hh
  have hX1 : Hid (Blk (w.alloc (.cells #[.int .i64 k, .string n, .int .i64 o, .string v] 46)) w.heap.size 46 #[.int .i64 k, .string n, .int .i64 o, .string v]) := Blk.new _ _ _
  have hX1b : Hid (Blk ((w.alloc (.cells #[.int .i64 k, .string n, .int .i64 o, .string v] 46)).alloc (.cells #[.int .i64 x0, .int .i64 x1, .string x2, .string x3, .string x4, .string x5, .string x6, .int .i64 x7, .int .i64 x8, .slice xa xn xc] 40)) w.heap.size 46 #[.int .i64 k, .string n, .int .i64 o, .string v]) := hX1.out.alloc _
  have hX2 : Hid (Blk ((w.alloc (.cells #[.int .i64 k, .string n, .int .i64 o, .string v] 46)).alloc (.cells #[.int .i64 x0, .int .i64 x1, .string x2, .string x3, .string x4, .string x5, .string x6, .int .i64 x7, .int .i64 x8, .slice xa xn xc] 40)) (w.heap.size + 1) 40 #[.int .i64 x0, .int .i64 x1, .string x2, .string x3, .string x4, .string x5, .string x6, .int .i64 x7, .int .i64 x8, .slice xa xn xc]) := Blk.new_ _ _ _ (by simp)
  have hb : Hid (Below w.heap.size w ((w.alloc (.cells #[.int .i64 k, .string n, .int .i64 o, .string v] 46)).alloc (.cells #[.int .i64 x0, .int .i64 x1, .string x2, .string x3, .string x4, .string x5, .string x6, .int .i64 x7, .int .i64 x8, .slice xa xn xc] 40))) := ((Below.refl _ _).alloc (Nat.le_refl _) _).alloc (by simp) _
  clear hX1
  rcases hgf with rfl | rfl | rfl | rfl
  · go_enter Tryz.func14, Tryz.ntmps14
    go_wp2_with fail
    generalize (w.alloc (.cells #[.int .i64 k, .string n, .int .i64 o, .string v] 46)).alloc (.cells #[.int .i64 x0, .int .i64 x1, .string x2, .string x3, .string x4, .string x5, .string x6, .int .i64 x7, .int .i64 x8, .slice xa xn xc] 40) = w2 at *
    refine (hof'.out _).mono ?_
    rintro e v1 ⟨rfl, hb1⟩
    have hY1 : Blk v1 w.heap.size 46 _ := hX1b.out.below hb1 hX1b.out.lt
    have hY2 : Blk v1 (w.heap.size + 1) 40 _ := hX2.out.below hb1 hX2.out.lt
    have hb3 : Hid (Below w.heap.size w v1) := hb.out.trans (hb1.mono hb.out.size)
    have hZ1 : Hid (Blk (v1.alloc (.cells #[.bool st, .bool up, .func (.func 72) #[] #[]] 76)) w.heap.size 46 _) := hY1.alloc _
    have hZ2 : Hid (Blk (v1.alloc (.cells #[.bool st, .bool up, .func (.func 72) #[] #[]] 76)) (w.heap.size + 1) 40 _) := hY2.alloc _
    have hZ3 : Hid (Blk (v1.alloc (.cells #[.bool st, .bool up, .func (.func 72) #[] #[]] 76)) v1.heap.size 76 #[.bool st, .bool up, .func (.func 72) #[] #[]]) := Blk.new _ _ _
    have hb4 : Hid (Below w.heap.size w (v1.alloc (.cells #[.bool st, .bool up, .func (.func 72) #[] #[]] 76))) := hb3.out.alloc hb3.out.size _
    clear hX1b hX2 hb hb1 hof' hY1 hY2 hb3
    go_upto_region 2 with fail
    generalize v1.alloc (.cells #[.bool st, .bool up, .func (.func 72) #[] #[]] 76) = w3 at *
    generalize v1.heap.size = g3 at *
    have hkk : ∀ y, Blk y w.heap.size 46 #[.int .i64 k, .string n, .int .i64 o, .string v] → Blk y (w.heap.size + 1) 40 #[.int .i64 x0, .int .i64 x1, .string x2, .string x3, .string x4, .string x5, .string x6, .int .i64 x7, .int .i64 x8, .slice xa xn xc] → Blk y g3 76 #[.bool st, .bool up, .func (.func 72) #[] #[]] → Below w.heap.size w y → (Below w.heap.size w y ∧ y.cell? ⟨w.heap.size, 0, none⟩ = some (.int .i64 k) ∧ y.cell? ⟨w.heap.size, 1, none⟩ = some (.string n) ∧ y.cell? ⟨w.heap.size, 2, none⟩ = some (.int .i64 o) ∧ y.cell? ⟨w.heap.size, 3, none⟩ = some (.string v) ∧ y.cell? ⟨w.heap.size + 1, 0, none⟩ = some (.int .i64 x0) ∧ y.cell? ⟨w.heap.size + 1, 1, none⟩ = some (.int .i64 x1) ∧ y.cell? ⟨w.heap.size + 1, 2, none⟩ = some (.string x2) ∧ y.cell? ⟨w.heap.size + 1, 3, none⟩ = some (.string x3) ∧ y.cell? ⟨w.heap.size + 1, 4, none⟩ = some (.string x4) ∧ y.cell? ⟨w.heap.size + 1, 5, none⟩ = some (.string x5) ∧ y.cell? ⟨w.heap.size + 1, 6, none⟩ = some (.string x6) ∧ y.cell? ⟨w.heap.size + 1, 7, none⟩ = some (.int .i64 x7) ∧ y.cell? ⟨w.heap.size + 1, 8, none⟩ = some (.int .i64 x8) ∧ y.cell? ⟨w.heap.size + 1, 9, none⟩ = some (.slice xa xn xc) ∧ y.cell? ⟨g3, 2, none⟩ = some (.func (.func 72) #[] #[])) := fun y a1 a2 a3 hb => ⟨hb, (a1.cell 0).trans rfl, (a1.cell 1).trans rfl, (a1.cell 2).trans rfl, (a1.cell 3).trans rfl, (a2.cell 0).trans rfl, (a2.cell 1).trans rfl, (a2.cell 2).trans rfl, (a2.cell 3).trans rfl, (a2.cell 4).trans rfl, (a2.cell 5).trans rfl, (a2.cell 6).trans rfl, (a2.cell 7).trans rfl, (a2.cell 8).trans rfl, (a2.cell 9).trans rfl, (a3.cell 2).trans rfl⟩
    have hS0 := hkk w3 hZ1.out hZ2.out hZ3.out hb4.out
    have hS1 := hkk w3.drew hZ1.out hZ2.out hZ3.out (Below.drew hb4.out)
    have hk : Hid (∀ y, Below w3.drew.heap.size w3.drew y → (Below w.heap.size w y ∧ y.cell? ⟨w.heap.size, 0, none⟩ = some (.int .i64 k) ∧ y.cell? ⟨w.heap.size, 1, none⟩ = some (.string n) ∧ y.cell? ⟨w.heap.size, 2, none⟩ = some (.int .i64 o) ∧ y.cell? ⟨w.heap.size, 3, none⟩ = some (.string v) ∧ y.cell? ⟨w.heap.size + 1, 0, none⟩ = some (.int .i64 x0) ∧ y.cell? ⟨w.heap.size + 1, 1, none⟩ = some (.int .i64 x1) ∧ y.cell? ⟨w.heap.size + 1, 2, none⟩ = some (.string x2) ∧ y.cell? ⟨w.heap.size + 1, 3, none⟩ = some (.string x3) ∧ y.cell? ⟨w.heap.size + 1, 4, none⟩ = some (.string x4) ∧ y.cell? ⟨w.heap.size + 1, 5, none⟩ = some (.string x5) ∧ y.cell? ⟨w.heap.size + 1, 6, none⟩ = some (.string x6) ∧ y.cell? ⟨w.heap.size + 1, 7, none⟩ = some (.int .i64 x7) ∧ y.cell? ⟨w.heap.size + 1, 8, none⟩ = some (.int .i64 x8) ∧ y.cell? ⟨w.heap.size + 1, 9, none⟩ = some (.slice xa xn xc) ∧ y.cell? ⟨g3, 2, none⟩ = some (.func (.func 72) #[] #[]))) := fun y h => hkk y (hZ1.out.drew.below h hZ1.out.drew.lt) (hZ2.out.drew.below h hZ2.out.drew.lt) (hZ3.out.drew.below h hZ3.out.drew.lt) ((Below.drew hb4.out).trans (h.mono (Below.drew hb4.out).size))
    have hv2 : Hid (∀ W, Below w.heap.size w W → Calls Tryz.prog 72 _ W _) := hval'.out
    clear hkk hval'
    (first | (go_must (go_region_held3 (fun w' => Below w.heap.size w w' ∧ w'.cell? ⟨w.heap.size, 0, none⟩ = some (.int .i64 k) ∧ w'.cell? ⟨w.heap.size, 1, none⟩ = some (.string n) ∧ w'.cell? ⟨w.heap.size, 2, none⟩ = some (.int .i64 o) ∧ w'.cell? ⟨w.heap.size, 3, none⟩ = some (.string v) ∧ w'.cell? ⟨w.heap.size + 1, 0, none⟩ = some (.int .i64 x0) ∧ w'.cell? ⟨w.heap.size + 1, 1, none⟩ = some (.int .i64 x1) ∧ w'.cell? ⟨w.heap.size + 1, 2, none⟩ = some (.string x2) ∧ w'.cell? ⟨w.heap.size + 1, 3, none⟩ = some (.string x3) ∧ w'.cell? ⟨w.heap.size + 1, 4, none⟩ = some (.string x4) ∧ w'.cell? ⟨w.heap.size + 1, 5, none⟩ = some (.string x5) ∧ w'.cell? ⟨w.heap.size + 1, 6, none⟩ = some (.string x6) ∧ w'.cell? ⟨w.heap.size + 1, 7, none⟩ = some (.int .i64 x7) ∧ w'.cell? ⟨w.heap.size + 1, 8, none⟩ = some (.int .i64 x8) ∧ w'.cell? ⟨w.heap.size + 1, 9, none⟩ = some (.slice xa xn xc) ∧ w'.cell? ⟨g3, 2, none⟩ = some (.func (.func 72) #[] #[]))
      ((first | exact hS0 | exact hS1 | exact hk.out _ hy1 | exact hk.out _ (hy1.trans (hy2.mono hy1.size))))
      (first | (go_at_call 72; refine (hv2.out _ (by first | exact hS0.1 | exact hS1.1)).mono ?_; rintro e y1 ⟨rfl, hy1⟩) | (go_at_call 32; refine (hh'.out _).mono ?_; rintro e y2 ⟨rfl, hy2⟩) | fail))) | fail)
    have hy := Lib.hid (hk.out _ (hy1.trans (hy2.mono hy1.size))).1
    clear hy1 hy2 hS0 hS1
    go_wp2_with fail
    go_ret
    exact ⟨rfl, hy.out⟩
  · go_enter Tryz.func14, Tryz.ntmps14
    go_wp2_with fail
    generalize (w.alloc (.cells #[.int .i64 k, .string n, .int .i64 o, .string v] 46)).alloc (.cells #[.int .i64 x0, .int .i64 x1, .string x2, .string x3, .string x4, .string x5, .string x6, .int .i64 x7, .int .i64 x8, .slice xa xn xc] 40) = w2 at *
    refine (hof'.out _).mono ?_
    rintro e v1 ⟨rfl, hb1⟩
    have hY1 : Blk v1 w.heap.size 46 _ := hX1b.out.below hb1 hX1b.out.lt
    have hY2 : Blk v1 (w.heap.size + 1) 40 _ := hX2.out.below hb1 hX2.out.lt
    have hb3 : Hid (Below w.heap.size w v1) := hb.out.trans (hb1.mono hb.out.size)
    have hZ1 : Hid (Blk (v1.alloc (.cells #[.bool st, .bool up, .func (.func 73) #[] #[]] 76)) w.heap.size 46 _) := hY1.alloc _
    have hZ2 : Hid (Blk (v1.alloc (.cells #[.bool st, .bool up, .func (.func 73) #[] #[]] 76)) (w.heap.size + 1) 40 _) := hY2.alloc _
    have hZ3 : Hid (Blk (v1.alloc (.cells #[.bool st, .bool up, .func (.func 73) #[] #[]] 76)) v1.heap.size 76 #[.bool st, .bool up, .func (.func 73) #[] #[]]) := Blk.new _ _ _
    have hb4 : Hid (Below w.heap.size w (v1.alloc (.cells #[.bool st, .bool up, .func (.func 73) #[] #[]] 76))) := hb3.out.alloc hb3.out.size _
    clear hX1b hX2 hb hb1 hof' hY1 hY2 hb3
    go_upto_region 2 with fail
    generalize v1.alloc (.cells #[.bool st, .bool up, .func (.func 73) #[] #[]] 76) = w3 at *
    generalize v1.heap.size = g3 at *
    have hkk : ∀ y, Blk y w.heap.size 46 #[.int .i64 k, .string n, .int .i64 o, .string v] → Blk y (w.heap.size + 1) 40 #[.int .i64 x0, .int .i64 x1, .string x2, .string x3, .string x4, .string x5, .string x6, .int .i64 x7, .int .i64 x8, .slice xa xn xc] → Blk y g3 76 #[.bool st, .bool up, .func (.func 73) #[] #[]] → Below w.heap.size w y → (Below w.heap.size w y ∧ y.cell? ⟨w.heap.size, 0, none⟩ = some (.int .i64 k) ∧ y.cell? ⟨w.heap.size, 1, none⟩ = some (.string n) ∧ y.cell? ⟨w.heap.size, 2, none⟩ = some (.int .i64 o) ∧ y.cell? ⟨w.heap.size, 3, none⟩ = some (.string v) ∧ y.cell? ⟨w.heap.size + 1, 0, none⟩ = some (.int .i64 x0) ∧ y.cell? ⟨w.heap.size + 1, 1, none⟩ = some (.int .i64 x1) ∧ y.cell? ⟨w.heap.size + 1, 2, none⟩ = some (.string x2) ∧ y.cell? ⟨w.heap.size + 1, 3, none⟩ = some (.string x3) ∧ y.cell? ⟨w.heap.size + 1, 4, none⟩ = some (.string x4) ∧ y.cell? ⟨w.heap.size + 1, 5, none⟩ = some (.string x5) ∧ y.cell? ⟨w.heap.size + 1, 6, none⟩ = some (.string x6) ∧ y.cell? ⟨w.heap.size + 1, 7, none⟩ = some (.int .i64 x7) ∧ y.cell? ⟨w.heap.size + 1, 8, none⟩ = some (.int .i64 x8) ∧ y.cell? ⟨w.heap.size + 1, 9, none⟩ = some (.slice xa xn xc) ∧ y.cell? ⟨g3, 2, none⟩ = some (.func (.func 73) #[] #[])) := fun y a1 a2 a3 hb => ⟨hb, (a1.cell 0).trans rfl, (a1.cell 1).trans rfl, (a1.cell 2).trans rfl, (a1.cell 3).trans rfl, (a2.cell 0).trans rfl, (a2.cell 1).trans rfl, (a2.cell 2).trans rfl, (a2.cell 3).trans rfl, (a2.cell 4).trans rfl, (a2.cell 5).trans rfl, (a2.cell 6).trans rfl, (a2.cell 7).trans rfl, (a2.cell 8).trans rfl, (a2.cell 9).trans rfl, (a3.cell 2).trans rfl⟩
    have hS0 := hkk w3 hZ1.out hZ2.out hZ3.out hb4.out
    have hS1 := hkk w3.drew hZ1.out hZ2.out hZ3.out (Below.drew hb4.out)
    have hk : Hid (∀ y, Below w3.drew.heap.size w3.drew y → (Below w.heap.size w y ∧ y.cell? ⟨w.heap.size, 0, none⟩ = some (.int .i64 k) ∧ y.cell? ⟨w.heap.size, 1, none⟩ = some (.string n) ∧ y.cell? ⟨w.heap.size, 2, none⟩ = some (.int .i64 o) ∧ y.cell? ⟨w.heap.size, 3, none⟩ = some (.string v) ∧ y.cell? ⟨w.heap.size + 1, 0, none⟩ = some (.int .i64 x0) ∧ y.cell? ⟨w.heap.size + 1, 1, none⟩ = some (.int .i64 x1) ∧ y.cell? ⟨w.heap.size + 1, 2, none⟩ = some (.string x2) ∧ y.cell? ⟨w.heap.size + 1, 3, none⟩ = some (.string x3) ∧ y.cell? ⟨w.heap.size + 1, 4, none⟩ = some (.string x4) ∧ y.cell? ⟨w.heap.size + 1, 5, none⟩ = some (.string x5) ∧ y.cell? ⟨w.heap.size + 1, 6, none⟩ = some (.string x6) ∧ y.cell? ⟨w.heap.size + 1, 7, none⟩ = some (.int .i64 x7) ∧ y.cell? ⟨w.heap.size + 1, 8, none⟩ = some (.int .i64 x8) ∧ y.cell? ⟨w.heap.size + 1, 9, none⟩ = some (.slice xa xn xc) ∧ y.cell? ⟨g3, 2, none⟩ = some (.func (.func 73) #[] #[]))) := fun y h => hkk y (hZ1.out.drew.below h hZ1.out.drew.lt) (hZ2.out.drew.below h hZ2.out.drew.lt) (hZ3.out.drew.below h hZ3.out.drew.lt) ((Below.drew hb4.out).trans (h.mono (Below.drew hb4.out).size))
    have hv2 : Hid (∀ W, Below w.heap.size w W → Calls Tryz.prog 73 _ W _) := hval'.out
    clear hkk hval'
    (first | (go_must (go_region_held3 (fun w' => Below w.heap.size w w' ∧ w'.cell? ⟨w.heap.size, 0, none⟩ = some (.int .i64 k) ∧ w'.cell? ⟨w.heap.size, 1, none⟩ = some (.string n) ∧ w'.cell? ⟨w.heap.size, 2, none⟩ = some (.int .i64 o) ∧ w'.cell? ⟨w.heap.size, 3, none⟩ = some (.string v) ∧ w'.cell? ⟨w.heap.size + 1, 0, none⟩ = some (.int .i64 x0) ∧ w'.cell? ⟨w.heap.size + 1, 1, none⟩ = some (.int .i64 x1) ∧ w'.cell? ⟨w.heap.size + 1, 2, none⟩ = some (.string x2) ∧ w'.cell? ⟨w.heap.size + 1, 3, none⟩ = some (.string x3) ∧ w'.cell? ⟨w.heap.size + 1, 4, none⟩ = some (.string x4) ∧ w'.cell? ⟨w.heap.size + 1, 5, none⟩ = some (.string x5) ∧ w'.cell? ⟨w.heap.size + 1, 6, none⟩ = some (.string x6) ∧ w'.cell? ⟨w.heap.size + 1, 7, none⟩ = some (.int .i64 x7) ∧ w'.cell? ⟨w.heap.size + 1, 8, none⟩ = some (.int .i64 x8) ∧ w'.cell? ⟨w.heap.size + 1, 9, none⟩ = some (.slice xa xn xc) ∧ w'.cell? ⟨g3, 2, none⟩ = some (.func (.func 73) #[] #[]))
      ((first | exact hS0 | exact hS1 | exact hk.out _ hy1 | exact hk.out _ (hy1.trans (hy2.mono hy1.size))))
      (first | (go_at_call 73; refine (hv2.out _ (by first | exact hS0.1 | exact hS1.1)).mono ?_; rintro e y1 ⟨rfl, hy1⟩) | (go_at_call 32; refine (hh'.out _).mono ?_; rintro e y2 ⟨rfl, hy2⟩) | fail))) | fail)
    have hy := Lib.hid (hk.out _ (hy1.trans (hy2.mono hy1.size))).1
    clear hy1 hy2 hS0 hS1
    go_wp2_with fail
    go_ret
    exact ⟨rfl, hy.out⟩
  · go_enter Tryz.func14, Tryz.ntmps14
    go_wp2_with fail
    generalize (w.alloc (.cells #[.int .i64 k, .string n, .int .i64 o, .string v] 46)).alloc (.cells #[.int .i64 x0, .int .i64 x1, .string x2, .string x3, .string x4, .string x5, .string x6, .int .i64 x7, .int .i64 x8, .slice xa xn xc] 40) = w2 at *
    refine (hof'.out _).mono ?_
    rintro e v1 ⟨rfl, hb1⟩
    have hY1 : Blk v1 w.heap.size 46 _ := hX1b.out.below hb1 hX1b.out.lt
    have hY2 : Blk v1 (w.heap.size + 1) 40 _ := hX2.out.below hb1 hX2.out.lt
    have hb3 : Hid (Below w.heap.size w v1) := hb.out.trans (hb1.mono hb.out.size)
    have hZ1 : Hid (Blk (v1.alloc (.cells #[.bool st, .bool up, .func (.func 74) #[] #[]] 76)) w.heap.size 46 _) := hY1.alloc _
    have hZ2 : Hid (Blk (v1.alloc (.cells #[.bool st, .bool up, .func (.func 74) #[] #[]] 76)) (w.heap.size + 1) 40 _) := hY2.alloc _
    have hZ3 : Hid (Blk (v1.alloc (.cells #[.bool st, .bool up, .func (.func 74) #[] #[]] 76)) v1.heap.size 76 #[.bool st, .bool up, .func (.func 74) #[] #[]]) := Blk.new _ _ _
    have hb4 : Hid (Below w.heap.size w (v1.alloc (.cells #[.bool st, .bool up, .func (.func 74) #[] #[]] 76))) := hb3.out.alloc hb3.out.size _
    clear hX1b hX2 hb hb1 hof' hY1 hY2 hb3
    go_upto_region 2 with fail
    generalize v1.alloc (.cells #[.bool st, .bool up, .func (.func 74) #[] #[]] 76) = w3 at *
    generalize v1.heap.size = g3 at *
    have hkk : ∀ y, Blk y w.heap.size 46 #[.int .i64 k, .string n, .int .i64 o, .string v] → Blk y (w.heap.size + 1) 40 #[.int .i64 x0, .int .i64 x1, .string x2, .string x3, .string x4, .string x5, .string x6, .int .i64 x7, .int .i64 x8, .slice xa xn xc] → Blk y g3 76 #[.bool st, .bool up, .func (.func 74) #[] #[]] → Below w.heap.size w y → (Below w.heap.size w y ∧ y.cell? ⟨w.heap.size, 0, none⟩ = some (.int .i64 k) ∧ y.cell? ⟨w.heap.size, 1, none⟩ = some (.string n) ∧ y.cell? ⟨w.heap.size, 2, none⟩ = some (.int .i64 o) ∧ y.cell? ⟨w.heap.size, 3, none⟩ = some (.string v) ∧ y.cell? ⟨w.heap.size + 1, 0, none⟩ = some (.int .i64 x0) ∧ y.cell? ⟨w.heap.size + 1, 1, none⟩ = some (.int .i64 x1) ∧ y.cell? ⟨w.heap.size + 1, 2, none⟩ = some (.string x2) ∧ y.cell? ⟨w.heap.size + 1, 3, none⟩ = some (.string x3) ∧ y.cell? ⟨w.heap.size + 1, 4, none⟩ = some (.string x4) ∧ y.cell? ⟨w.heap.size + 1, 5, none⟩ = some (.string x5) ∧ y.cell? ⟨w.heap.size + 1, 6, none⟩ = some (.string x6) ∧ y.cell? ⟨w.heap.size + 1, 7, none⟩ = some (.int .i64 x7) ∧ y.cell? ⟨w.heap.size + 1, 8, none⟩ = some (.int .i64 x8) ∧ y.cell? ⟨w.heap.size + 1, 9, none⟩ = some (.slice xa xn xc) ∧ y.cell? ⟨g3, 2, none⟩ = some (.func (.func 74) #[] #[])) := fun y a1 a2 a3 hb => ⟨hb, (a1.cell 0).trans rfl, (a1.cell 1).trans rfl, (a1.cell 2).trans rfl, (a1.cell 3).trans rfl, (a2.cell 0).trans rfl, (a2.cell 1).trans rfl, (a2.cell 2).trans rfl, (a2.cell 3).trans rfl, (a2.cell 4).trans rfl, (a2.cell 5).trans rfl, (a2.cell 6).trans rfl, (a2.cell 7).trans rfl, (a2.cell 8).trans rfl, (a2.cell 9).trans rfl, (a3.cell 2).trans rfl⟩
    have hS0 := hkk w3 hZ1.out hZ2.out hZ3.out hb4.out
    have hS1 := hkk w3.drew hZ1.out hZ2.out hZ3.out (Below.drew hb4.out)
    have hk : Hid (∀ y, Below w3.drew.heap.size w3.drew y → (Below w.heap.size w y ∧ y.cell? ⟨w.heap.size, 0, none⟩ = some (.int .i64 k) ∧ y.cell? ⟨w.heap.size, 1, none⟩ = some (.string n) ∧ y.cell? ⟨w.heap.size, 2, none⟩ = some (.int .i64 o) ∧ y.cell? ⟨w.heap.size, 3, none⟩ = some (.string v) ∧ y.cell? ⟨w.heap.size + 1, 0, none⟩ = some (.int .i64 x0) ∧ y.cell? ⟨w.heap.size + 1, 1, none⟩ = some (.int .i64 x1) ∧ y.cell? ⟨w.heap.size + 1, 2, none⟩ = some (.string x2) ∧ y.cell? ⟨w.heap.size + 1, 3, none⟩ = some (.string x3) ∧ y.cell? ⟨w.heap.size + 1, 4, none⟩ = some (.string x4) ∧ y.cell? ⟨w.heap.size + 1, 5, none⟩ = some (.string x5) ∧ y.cell? ⟨w.heap.size + 1, 6, none⟩ = some (.string x6) ∧ y.cell? ⟨w.heap.size + 1, 7, none⟩ = some (.int .i64 x7) ∧ y.cell? ⟨w.heap.size + 1, 8, none⟩ = some (.int .i64 x8) ∧ y.cell? ⟨w.heap.size + 1, 9, none⟩ = some (.slice xa xn xc) ∧ y.cell? ⟨g3, 2, none⟩ = some (.func (.func 74) #[] #[]))) := fun y h => hkk y (hZ1.out.drew.below h hZ1.out.drew.lt) (hZ2.out.drew.below h hZ2.out.drew.lt) (hZ3.out.drew.below h hZ3.out.drew.lt) ((Below.drew hb4.out).trans (h.mono (Below.drew hb4.out).size))
    have hv2 : Hid (∀ W, Below w.heap.size w W → Calls Tryz.prog 74 _ W _) := hval'.out
    clear hkk hval'
    (first | (go_must (go_region_held3 (fun w' => Below w.heap.size w w' ∧ w'.cell? ⟨w.heap.size, 0, none⟩ = some (.int .i64 k) ∧ w'.cell? ⟨w.heap.size, 1, none⟩ = some (.string n) ∧ w'.cell? ⟨w.heap.size, 2, none⟩ = some (.int .i64 o) ∧ w'.cell? ⟨w.heap.size, 3, none⟩ = some (.string v) ∧ w'.cell? ⟨w.heap.size + 1, 0, none⟩ = some (.int .i64 x0) ∧ w'.cell? ⟨w.heap.size + 1, 1, none⟩ = some (.int .i64 x1) ∧ w'.cell? ⟨w.heap.size + 1, 2, none⟩ = some (.string x2) ∧ w'.cell? ⟨w.heap.size + 1, 3, none⟩ = some (.string x3) ∧ w'.cell? ⟨w.heap.size + 1, 4, none⟩ = some (.string x4) ∧ w'.cell? ⟨w.heap.size + 1, 5, none⟩ = some (.string x5) ∧ w'.cell? ⟨w.heap.size + 1, 6, none⟩ = some (.string x6) ∧ w'.cell? ⟨w.heap.size + 1, 7, none⟩ = some (.int .i64 x7) ∧ w'.cell? ⟨w.heap.size + 1, 8, none⟩ = some (.int .i64 x8) ∧ w'.cell? ⟨w.heap.size + 1, 9, none⟩ = some (.slice xa xn xc) ∧ w'.cell? ⟨g3, 2, none⟩ = some (.func (.func 74) #[] #[]))
      ((first | exact hS0 | exact hS1 | exact hk.out _ hy1 | exact hk.out _ (hy1.trans (hy2.mono hy1.size))))
      (first | (go_at_call 74; refine (hv2.out _ (by first | exact hS0.1 | exact hS1.1)).mono ?_; rintro e y1 ⟨rfl, hy1⟩) | (go_at_call 32; refine (hh'.out _).mono ?_; rintro e y2 ⟨rfl, hy2⟩) | fail))) | fail)
    have hy := Lib.hid (hk.out _ (hy1.trans (hy2.mono hy1.size))).1
    clear hy1 hy2 hS0 hS1
    go_wp2_with fail
    go_ret
    exact ⟨rfl, hy.out⟩
  · go_enter Tryz.func14, Tryz.ntmps14
    go_wp2_with fail
    generalize (w.alloc (.cells #[.int .i64 k, .string n, .int .i64 o, .string v] 46)).alloc (.cells #[.int .i64 x0, .int .i64 x1, .string x2, .string x3, .string x4, .string x5, .string x6, .int .i64 x7, .int .i64 x8, .slice xa xn xc] 40) = w2 at *
    refine (hof'.out _).mono ?_
    rintro e v1 ⟨rfl, hb1⟩
    have hY1 : Blk v1 w.heap.size 46 _ := hX1b.out.below hb1 hX1b.out.lt
    have hY2 : Blk v1 (w.heap.size + 1) 40 _ := hX2.out.below hb1 hX2.out.lt
    have hb3 : Hid (Below w.heap.size w v1) := hb.out.trans (hb1.mono hb.out.size)
    have hZ1 : Hid (Blk (v1.alloc (.cells #[.bool st, .bool up, .func (.func 75) #[] #[]] 76)) w.heap.size 46 _) := hY1.alloc _
    have hZ2 : Hid (Blk (v1.alloc (.cells #[.bool st, .bool up, .func (.func 75) #[] #[]] 76)) (w.heap.size + 1) 40 _) := hY2.alloc _
    have hZ3 : Hid (Blk (v1.alloc (.cells #[.bool st, .bool up, .func (.func 75) #[] #[]] 76)) v1.heap.size 76 #[.bool st, .bool up, .func (.func 75) #[] #[]]) := Blk.new _ _ _
    have hb4 : Hid (Below w.heap.size w (v1.alloc (.cells #[.bool st, .bool up, .func (.func 75) #[] #[]] 76))) := hb3.out.alloc hb3.out.size _
    clear hX1b hX2 hb hb1 hof' hY1 hY2 hb3
    go_upto_region 2 with fail
    generalize v1.alloc (.cells #[.bool st, .bool up, .func (.func 75) #[] #[]] 76) = w3 at *
    generalize v1.heap.size = g3 at *
    have hkk : ∀ y, Blk y w.heap.size 46 #[.int .i64 k, .string n, .int .i64 o, .string v] → Blk y (w.heap.size + 1) 40 #[.int .i64 x0, .int .i64 x1, .string x2, .string x3, .string x4, .string x5, .string x6, .int .i64 x7, .int .i64 x8, .slice xa xn xc] → Blk y g3 76 #[.bool st, .bool up, .func (.func 75) #[] #[]] → Below w.heap.size w y → (Below w.heap.size w y ∧ y.cell? ⟨w.heap.size, 0, none⟩ = some (.int .i64 k) ∧ y.cell? ⟨w.heap.size, 1, none⟩ = some (.string n) ∧ y.cell? ⟨w.heap.size, 2, none⟩ = some (.int .i64 o) ∧ y.cell? ⟨w.heap.size, 3, none⟩ = some (.string v) ∧ y.cell? ⟨w.heap.size + 1, 0, none⟩ = some (.int .i64 x0) ∧ y.cell? ⟨w.heap.size + 1, 1, none⟩ = some (.int .i64 x1) ∧ y.cell? ⟨w.heap.size + 1, 2, none⟩ = some (.string x2) ∧ y.cell? ⟨w.heap.size + 1, 3, none⟩ = some (.string x3) ∧ y.cell? ⟨w.heap.size + 1, 4, none⟩ = some (.string x4) ∧ y.cell? ⟨w.heap.size + 1, 5, none⟩ = some (.string x5) ∧ y.cell? ⟨w.heap.size + 1, 6, none⟩ = some (.string x6) ∧ y.cell? ⟨w.heap.size + 1, 7, none⟩ = some (.int .i64 x7) ∧ y.cell? ⟨w.heap.size + 1, 8, none⟩ = some (.int .i64 x8) ∧ y.cell? ⟨w.heap.size + 1, 9, none⟩ = some (.slice xa xn xc) ∧ y.cell? ⟨g3, 2, none⟩ = some (.func (.func 75) #[] #[])) := fun y a1 a2 a3 hb => ⟨hb, (a1.cell 0).trans rfl, (a1.cell 1).trans rfl, (a1.cell 2).trans rfl, (a1.cell 3).trans rfl, (a2.cell 0).trans rfl, (a2.cell 1).trans rfl, (a2.cell 2).trans rfl, (a2.cell 3).trans rfl, (a2.cell 4).trans rfl, (a2.cell 5).trans rfl, (a2.cell 6).trans rfl, (a2.cell 7).trans rfl, (a2.cell 8).trans rfl, (a2.cell 9).trans rfl, (a3.cell 2).trans rfl⟩
    have hS0 := hkk w3 hZ1.out hZ2.out hZ3.out hb4.out
    have hS1 := hkk w3.drew hZ1.out hZ2.out hZ3.out (Below.drew hb4.out)
    have hk : Hid (∀ y, Below w3.drew.heap.size w3.drew y → (Below w.heap.size w y ∧ y.cell? ⟨w.heap.size, 0, none⟩ = some (.int .i64 k) ∧ y.cell? ⟨w.heap.size, 1, none⟩ = some (.string n) ∧ y.cell? ⟨w.heap.size, 2, none⟩ = some (.int .i64 o) ∧ y.cell? ⟨w.heap.size, 3, none⟩ = some (.string v) ∧ y.cell? ⟨w.heap.size + 1, 0, none⟩ = some (.int .i64 x0) ∧ y.cell? ⟨w.heap.size + 1, 1, none⟩ = some (.int .i64 x1) ∧ y.cell? ⟨w.heap.size + 1, 2, none⟩ = some (.string x2) ∧ y.cell? ⟨w.heap.size + 1, 3, none⟩ = some (.string x3) ∧ y.cell? ⟨w.heap.size + 1, 4, none⟩ = some (.string x4) ∧ y.cell? ⟨w.heap.size + 1, 5, none⟩ = some (.string x5) ∧ y.cell? ⟨w.heap.size + 1, 6, none⟩ = some (.string x6) ∧ y.cell? ⟨w.heap.size + 1, 7, none⟩ = some (.int .i64 x7) ∧ y.cell? ⟨w.heap.size + 1, 8, none⟩ = some (.int .i64 x8) ∧ y.cell? ⟨w.heap.size + 1, 9, none⟩ = some (.slice xa xn xc) ∧ y.cell? ⟨g3, 2, none⟩ = some (.func (.func 75) #[] #[]))) := fun y h => hkk y (hZ1.out.drew.below h hZ1.out.drew.lt) (hZ2.out.drew.below h hZ2.out.drew.lt) (hZ3.out.drew.below h hZ3.out.drew.lt) ((Below.drew hb4.out).trans (h.mono (Below.drew hb4.out).size))
    have hv2 : Hid (∀ W, Below w.heap.size w W → Calls Tryz.prog 75 _ W _) := hval'.out
    clear hkk hval'
    (first | (go_must (go_region_held3 (fun w' => Below w.heap.size w w' ∧ w'.cell? ⟨w.heap.size, 0, none⟩ = some (.int .i64 k) ∧ w'.cell? ⟨w.heap.size, 1, none⟩ = some (.string n) ∧ w'.cell? ⟨w.heap.size, 2, none⟩ = some (.int .i64 o) ∧ w'.cell? ⟨w.heap.size, 3, none⟩ = some (.string v) ∧ w'.cell? ⟨w.heap.size + 1, 0, none⟩ = some (.int .i64 x0) ∧ w'.cell? ⟨w.heap.size + 1, 1, none⟩ = some (.int .i64 x1) ∧ w'.cell? ⟨w.heap.size + 1, 2, none⟩ = some (.string x2) ∧ w'.cell? ⟨w.heap.size + 1, 3, none⟩ = some (.string x3) ∧ w'.cell? ⟨w.heap.size + 1, 4, none⟩ = some (.string x4) ∧ w'.cell? ⟨w.heap.size + 1, 5, none⟩ = some (.string x5) ∧ w'.cell? ⟨w.heap.size + 1, 6, none⟩ = some (.string x6) ∧ w'.cell? ⟨w.heap.size + 1, 7, none⟩ = some (.int .i64 x7) ∧ w'.cell? ⟨w.heap.size + 1, 8, none⟩ = some (.int .i64 x8) ∧ w'.cell? ⟨w.heap.size + 1, 9, none⟩ = some (.slice xa xn xc) ∧ w'.cell? ⟨g3, 2, none⟩ = some (.func (.func 75) #[] #[]))
      ((first | exact hS0 | exact hS1 | exact hk.out _ hy1 | exact hk.out _ (hy1.trans (hy2.mono hy1.size))))
      (first | (go_at_call 75; refine (hv2.out _ (by first | exact hS0.1 | exact hS1.1)).mono ?_; rintro e y1 ⟨rfl, hy1⟩) | (go_at_call 32; refine (hh'.out _).mono ?_; rintro e y2 ⟨rfl, hy2⟩) | fail))) | fail)
    have hy := Lib.hid (hk.out _ (hy1.trans (hy2.mono hy1.size))).1
    clear hy1 hy2 hS0 hS1
    go_wp2_with fail
    go_ret
    exact ⟨rfl, hy.out⟩

end Go.Proofs.YtinjeijjfkkhbaaGreatDoor
