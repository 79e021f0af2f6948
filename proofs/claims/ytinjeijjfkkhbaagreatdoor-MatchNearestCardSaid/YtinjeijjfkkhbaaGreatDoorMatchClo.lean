/-
  THE WALKS of the closures of match.Ancestor and match.Draft.
-/
import Derived.Test.YtinjeijjfkkhbaaGreatDoorMatchDevice
import Derived.Test.YtinjeijjfkkhbaaGreatDoorStrIdx
import Derived.Test.YtinjeijjfkkhbaaGreatDoorTreeAnc
namespace Go.Proofs.YtinjeijjfkkhbaaGreatDoor
open Go.RowKit

/-- An upward term that does not hold at a device. -/
def offS (d : Dev) (t : Trm) : Bool := upS' t.k t.o && !devS t.k t.n t.o t.v d

set_option maxRecDepth 100000 in
set_option maxHeartbeats 1000000 in
theorem off_any (d : Dev) (t : Trm) (cb : Nat) (w : World) (hd : DevAt w d) (hf : DevFit d) (hv : t.v.size ≤ 9223372036854775807) (hcb : Blk w cb 40 (devC d).toArray) :
    Calls Tryz.prog 22 #[.agg #[.int .i64 t.k, .string t.n, .int .i64 t.o, .string t.v], .pointer (some ⟨cb, 0, none⟩)] w fun e w' => e = .returned (.bool (offS d t)) ∧ Below w.heap.size w w' := by
  obtain ⟨k, n, o, v⟩ := t
  simp only
  have hlt := hcb.lt
  have hbb : Below w.heap.size w (w.alloc (.cells #[.int .i64 k, .string n, .int .i64 o, .string v] 46)) := (Below.refl _ _).alloc (Nat.le_refl _) _
  have hU := upward_any k n o v (w.alloc (.cells #[.int .i64 k, .string n, .int .i64 o, .string v] 46))
  have hD := fun W (hb : Below w.heap.size w W) => device_any k n o v d W (hd.below hb) hf hv
  unfold offS
  simp only
  have hX : Hid (Blk (w.alloc (.cells #[.int .i64 k, .string n, .int .i64 o, .string v] 46)) w.heap.size 46 #[.int .i64 k, .string n, .int .i64 o, .string v]) := Blk.new _ _ _
  generalize devS k n o v d = dv at *
  generalize upS' k o = up at *
  unfold termV devV at *
  have hU' := Lib.hid hU; clear hU
  have hD' := Lib.hid hD; clear hD hd hf hv
  have hb := Lib.hid hbb; clear hbb
  have hcb' := Lib.hid hcb; clear hcb
  obtain ⟨x0, x1, x2, x3, x4, x5, x6, x7, x8, xa, xn, xc, xt⟩ := d
  unfold devC Dev.atv at hcb'
  simp only at hcb' hD'
  cases up with
  | false =>
    go_enter Tryz.func22, Tryz.ntmps22
    go_wp2_with fail
    refine hU'.out.mono ?_
    rintro e v1 ⟨rfl, hb1⟩
    have hb2 := Lib.hid (hb.out.trans (hb1.mono hb.out.size)); clear hb1
    go_wp2_with fail
    go_ret
    exact ⟨rfl, hb2.out⟩
  | true =>
    go_enter Tryz.func22, Tryz.ntmps22
    go_wp2_with fail
    refine hU'.out.mono ?_
    rintro e v1 ⟨rfl, hb1⟩
    have hb2 := Lib.hid (hb.out.trans (hb1.mono hb.out.size))
    have hX1 := hX.out.below hb1 hX.out.lt
    have hC1 := hcb'.out.below hb2.out hlt
    have c0 := hX1.cell 0
    have c1 := hX1.cell 1
    have c2 := hX1.cell 2
    have c3 := hX1.cell 3
    have q0 := hC1.cell 0
    have q1 := hC1.cell 1
    have q2 := hC1.cell 2
    have q3 := hC1.cell 3
    have q4 := hC1.cell 4
    have q5 := hC1.cell 5
    have q6 := hC1.cell 6
    have q7 := hC1.cell 7
    have q8 := hC1.cell 8
    have q9 := hC1.cell 9
    simp only [List.getElem?_toArray, List.getElem?_cons_zero, List.getElem?_cons_succ] at c0 c1 c2 c3 q0 q1 q2 q3 q4 q5 q6 q7 q8 q9
    clear hb1 hX1 hC1
    go_wp2_with fail
    refine (hD'.out _ hb2.out).mono ?_
    rintro e v2 ⟨rfl, hb3⟩
    have hb4 := Lib.hid (hb2.out.trans (hb3.mono hb2.out.size)); clear hb3
    go_wp2_with fail
    go_ret
    exact ⟨by simp, hb4.out⟩

set_option maxRecDepth 100000 in
set_option maxHeartbeats 1000000 in
theorem tag_any (s v : ByteArray) (cb : Nat) (k o : Int) (n : ByteArray) (w : World) (hs : s.size ≤ 9223372036854775807) (hv : v.size ≤ 9223372036854775807) (hcb : Blk w cb 46 #[.int .i64 k, .string n, .int .i64 o, .string v]) :
    Calls Tryz.prog 36 #[.string s, .pointer (some ⟨cb, 0, none⟩)] w fun e w' => e = .returned (.bool (G.matchS (bs v) (bs s))) ∧ Below w.heap.size w w' := by
  have hM := match_any v s w hv hs
  generalize G.matchS (bs v) (bs s) = b at *
  have c3 := hcb.cell 3
  simp only [List.getElem?_toArray, List.getElem?_cons_zero, List.getElem?_cons_succ] at c3
  have hM' := Lib.hid hM; clear hM hs hv hcb
  go_enter Tryz.func36, Tryz.ntmps36
  go_wp2_with fail
  refine hM'.out.mono ?_
  rintro e v1 ⟨rfl, hb1⟩
  have hb2 := Lib.hid hb1; clear hb1
  go_wp2_with fail
  go_ret
  exact ⟨rfl, hb2.out⟩

end Go.Proofs.YtinjeijjfkkhbaaGreatDoor
