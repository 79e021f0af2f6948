/-
  THE WALK of coldpluglaw12.MatchDevices.
-/
import Derived.Test.YtfihccfjboopiaaMakeTerm
import Derived.Test.YtfihccfjboopiaaMakeDev
import Derived.Test.YtfihccfjboopiaaRefDev
import Derived.Test.YtfihccfjboopiaaMatchKnown
import Derived.Test.YtfihccfjboopiaaStructArg
namespace Go.Proofs.Ytfihccfjboopiaa
open Go.RowKit

/-- One of the three terms of the list. -/
theorem three_at {W : World} {lb : Nat} {k k1 k2 : Int} {n m1 m2 : ByteArray} {o o1 o2 : Int} {v u1 u2 : ByteArray} (h : Blk W lb 23 #[.int .i64 k, .string n, .int .i64 o, .string v, .int .i64 k1, .string m1, .int .i64 o1, .string u1, .int .i64 k2, .string m2, .int .i64 o2, .string u2]) (hv : v.size ≤ 300) (h1 : u1.size ≤ 300) (h2 : u2.size ≤ 300) {j : Nat} (hj : j < 3) :
    ∃ (kk : Int) (nn : ByteArray) (oo : Int) (vv : ByteArray), vv.size ≤ 300 ∧ ∀ Y, Below W.heap.size W Y → Y.cell? ⟨lb, j * 4, none⟩ = some (.int .i64 kk) ∧ Y.cell? ⟨lb, j * 4 + 1, none⟩ = some (.string nn) ∧ Y.cell? ⟨lb, j * 4 + 2, none⟩ = some (.int .i64 oo) ∧ Y.cell? ⟨lb, j * 4 + 3, none⟩ = some (.string vv) := by
  rcases (by omega : j = 0 ∨ j = 1 ∨ j = 2) with rfl | rfl | rfl
  · exact ⟨k, n, o, v, hv, fun Y hY => ⟨(h.below hY h.lt).cell 0, (h.below hY h.lt).cell 1, (h.below hY h.lt).cell 2, (h.below hY h.lt).cell 3⟩⟩
  · exact ⟨k1, m1, o1, u1, h1, fun Y hY => ⟨(h.below hY h.lt).cell 4, (h.below hY h.lt).cell 5, (h.below hY h.lt).cell 6, (h.below hY h.lt).cell 7⟩⟩
  · exact ⟨k2, m2, o2, u2, h2, fun Y hY => ⟨(h.below hY h.lt).cell 8, (h.below hY h.lt).cell 9, (h.below hY h.lt).cell 10, (h.below hY h.lt).cell 11⟩⟩

set_option maxRecDepth 100000 in
set_option maxHeartbeats 8000000 in
theorem devices_walk (k : Int) (n : ByteArray) (o : Int) (v : ByteArray) (x : Dev) (a : Option Addr) (N C : Nat) (w : World) (hxf : DevFit x) (hp : RawAt w x.atv 2 (x.att.map attC)) (hl1 : x.att.length ≤ 9223372036854775807) (hv0 : v.size ≤ 9223372036854775807)
    (hrow : 0 < N → ∃ y : Addr, a = some y ∧ ∀ i, i < N → ∃ z : Int, w.cell? (y.add i) = some (.int .i64 z)) :
    Calls Try.prog 5 #[termV k n o v, devV x, .slice a N C] w fun e w' => e = .returned (.bool true) ∧ Below w.heap.size w w' := by
  obtain ⟨pp, cc, e1, _⟩ := hp.shape
  obtain ⟨di, dp, dn, dor, ds, dd, da, dk, du, p1, n1, c1, pl⟩ := x
  simp only [Dev.atv] at e1 hp hl1
  rw [List.length_map] at e1
  obtain ⟨rfl, e2, rfl⟩ : p1 = pp ∧ n1 = pl.length ∧ c1 = cc := by cases e1; exact ⟨rfl, rfl, rfl⟩
  rw [← e2] at hl1
  have hpl := Lib.hid e2.symm; clear e2 e1
  have hp' := Lib.hid hp; clear hp
  have hxf' := Lib.hid hxf; clear hxf
  have hrow' := Lib.hid hrow; clear hrow
  have hb2 : Hid (Below w.heap.size w ((w.alloc (.cells #[.int .i64 k, .string n, .int .i64 o, .string v] 23)).alloc (.cells #[.int .i64 di, .int .i64 dp, .string dn, .string dor, .string ds, .string dd, .string da, .int .i64 dk, .int .i64 du, .slice p1 n1 c1] 42))) := ((Below.refl _ _).alloc (Nat.le_refl _) _).alloc (by simp) _
  have hT2 : Hid (Blk ((w.alloc (.cells #[.int .i64 k, .string n, .int .i64 o, .string v] 23)).alloc (.cells #[.int .i64 di, .int .i64 dp, .string dn, .string dor, .string ds, .string dd, .string da, .int .i64 dk, .int .i64 du, .slice p1 n1 c1] 42)) w.heap.size 23 #[.int .i64 k, .string n, .int .i64 o, .string v]) := (Blk.new _ _ _).alloc _
  have hD2 : Hid (Blk ((w.alloc (.cells #[.int .i64 k, .string n, .int .i64 o, .string v] 23)).alloc (.cells #[.int .i64 di, .int .i64 dp, .string dn, .string dor, .string ds, .string dd, .string da, .int .i64 dk, .int .i64 du, .slice p1 n1 c1] 42)) (w.heap.size + 1) 42 #[.int .i64 di, .int .i64 dp, .string dn, .string dor, .string ds, .string dd, .string da, .int .i64 dk, .int .i64 du, .slice p1 n1 c1]) := Blk.new_ _ _ _ (by simp)
  have hs2 : Hid (((w.alloc (.cells #[.int .i64 k, .string n, .int .i64 o, .string v] 23)).alloc (.cells #[.int .i64 di, .int .i64 dp, .string dn, .string dor, .string ds, .string dd, .string da, .int .i64 dk, .int .i64 du, .slice p1 n1 c1] 42)).heap.size = w.heap.size + 2) := by show ((w.alloc (.cells #[.int .i64 k, .string n, .int .i64 o, .string v] 23)).alloc (.cells #[.int .i64 di, .int .i64 dp, .string dn, .string dor, .string ds, .string dd, .string da, .int .i64 dk, .int .i64 du, .slice p1 n1 c1] 42)).heap.size = _; simp
  have t3 := hT2.out.cell 3
  have d9 := hD2.out.cell 9
  simp only [List.getElem?_toArray, List.getElem?_cons_zero, List.getElem?_cons_succ] at t3 d9
  unfold termV devV
  dsimp only
  go_enter Try.func5, Try.ntmps5
  have hK : Hid (∀ Y, Below w.heap.size w Y → Calls Try.prog 8 #[] Y fun e w' => e = .returned (.bool true) ∧ Below w.heap.size w w') := fun Y h => (mknown_any Y).mono fun e w' ⟨h1, h2⟩ => ⟨h1, h.trans (h2.mono h.size)⟩
  by_cases ib : (60 : Int) < (n1 : Int)
  · go_wp2_with fail
    refine (hK.out _ hb2.out).mono ?_
    rintro e y ⟨rfl, hy⟩
    have hy' := Lib.hid hy; clear hy
    go_wp2_with fail
    go_ret
    exact ⟨rfl, hy'.out⟩
  by_cases hvb : 300 < v.size
  · have iv : (300 : Int) < (v.size : Int) := by omega
    go_wp2_with fail
    refine (hK.out _ hb2.out).mono ?_
    rintro e y ⟨rfl, hy⟩
    have hy' := Lib.hid hy; clear hy
    go_wp2_with fail
    go_ret
    exact ⟨rfl, hy'.out⟩
  have iv : ¬ (300 : Int) < (v.size : Int) := by omega
  have hpa : Hid (DevAt ((w.alloc (.cells #[.int .i64 k, .string n, .int .i64 o, .string v] 23)).alloc (.cells #[.int .i64 di, .int .i64 dp, .string dn, .string dor, .string ds, .string dd, .string da, .int .i64 dk, .int .i64 du, .slice p1 n1 c1] 42)) ⟨di, dp, dn, dor, ds, dd, da, dk, du, p1, n1, c1, pl⟩) := RowAt.below (hp'.out.row (by rw [List.length_map]; have := hpl.out; omega)) hb2.out
  have hrow2 : Hid (0 < N → ∃ y : Addr, a = some y ∧ ∀ i, i < N → ∃ z : Int, (((w.alloc (.cells #[.int .i64 k, .string n, .int .i64 o, .string v] 23)).alloc (.cells #[.int .i64 di, .int .i64 dp, .string dn, .string dor, .string ds, .string dd, .string da, .int .i64 dk, .int .i64 du, .slice p1 n1 c1] 42))).cell? (y.add i) = some (.int .i64 z)) := fun h => by
    obtain ⟨y, hy, hz⟩ := hrow'.out h
    refine ⟨y, hy, fun i hi => ?_⟩
    obtain ⟨z, hz⟩ := hz i hi
    refine ⟨z, (World.cell?_of_block (hb2.out.block _ ?_)).trans hz⟩
    have := World.block_lt_of_cell? w _ hz
    exact this
  clear hp' hrow' hpl
  go_upto_region 3 with fail
  clear ib iv t3 d9
  generalize ((w.alloc (.cells #[.int .i64 k, .string n, .int .i64 o, .string v] 23)).alloc (.cells #[.int .i64 di, .int .i64 dp, .string dn, .string dor, .string ds, .string dd, .string da, .int .i64 dk, .int .i64 du, .slice p1 n1 c1] 42)) = w2 at *
  have hw2 : w2.heap.size = w.heap.size + 2 := hs2.out
  have hw2' := Lib.hid hw2; clear hw2 hs2
  have hg : w.heap.size ≤ w2.heap.size := hb2.out.size
  have hT3 := tape_new a N C w2 hrow2.out
  have hb3 : Hid (Below w.heap.size w (w2.alloc (.cells #[.slice a N C, .int .i64 0] 33))) := hb2.out.alloc hg _
  have hTt3 : Hid (Blk (w2.alloc (.cells #[.slice a N C, .int .i64 0] 33)) w.heap.size 23 #[.int .i64 k, .string n, .int .i64 o, .string v]) := hT2.out.alloc _
  have hD3 : Hid (Blk (w2.alloc (.cells #[.slice a N C, .int .i64 0] 33)) (w.heap.size + 1) 42 #[.int .i64 di, .int .i64 dp, .string dn, .string dor, .string ds, .string dd, .string da, .int .i64 dk, .int .i64 du, .slice p1 n1 c1]) := hD2.out.alloc _
  have hpa3 : Hid (DevAt (w2.alloc (.cells #[.slice a N C, .int .i64 0] 33)) ⟨di, dp, dn, dor, ds, dd, da, dk, du, p1, n1, c1, pl⟩) := RowAt.below hpa.out ((Below.refl _ _).alloc (Nat.le_refl _) _)
  have hlow : Hid (Off w2.heap.size (.slice p1 n1 c1)) := fun b o n c e hb => by
    subst hb
    rcases hpa.out.2 with ⟨h, _⟩ | ⟨b', o', c', h, hlt, _⟩
    · rw [show (Dev.atv ⟨di, dp, dn, dor, ds, dd, da, dk, du, p1, n1, c1, pl⟩) = .slice p1 n1 c1 from rfl] at h; rw [h] at e; cases e
    · rw [show (Dev.atv ⟨di, dp, dn, dor, ds, dd, da, dk, du, p1, n1, c1, pl⟩) = .slice p1 n1 c1 from rfl] at h; rw [h] at e; cases e; omega
  have hC := Lib.hid (mdevice_any w2.heap.size w2.heap.size 0 _ hT3 (by omega))
  clear hT3 hT2 hD2 hpa hrow2 hb2
  go_wp2_with fail
  refine hC.out.mono ?_
  rintro e x1 ⟨⟨ei, ep, en, eor, es, ed, ea, ek, eu, p3, n3, c3, pl2⟩, q1, rfl, hq1, hxa, hxg, hxo, hTx, hOx⟩
  have hT4 : Blk x1 w.heap.size 23 #[.int .i64 k, .string n, .int .i64 o, .string v] := hTt3.out.only hOx (by have := hw2'.out; omega)
  have hD4 : Blk x1 (w.heap.size + 1) 42 #[.int .i64 di, .int .i64 dp, .string dn, .string dor, .string ds, .string dd, .string da, .int .i64 dk, .int .i64 du, .slice p1 n1 c1] := hD3.out.only hOx (by have := hw2'.out; omega)
  have hpa4 : DevAt x1 ⟨di, dp, dn, dor, ds, dd, da, dk, du, p1, n1, c1, pl⟩ := hpa3.out.only hOx hlow.out
  have hb4 : Below w.heap.size w x1 := hb3.out.trans (hOx.below (fun j e => by have e : j = w2.heap.size := e; omega) hb3.out.size)
  have hT5 : Hid (Blk (x1.alloc (.cells #[.int .i64 ei, .int .i64 ep, .string en, .string eor, .string es, .string ed, .string ea, .int .i64 ek, .int .i64 eu, .slice p3 n3 c3] 42)) w.heap.size 23 #[.int .i64 k, .string n, .int .i64 o, .string v]) := hT4.alloc _
  have hD5 : Hid (Blk (x1.alloc (.cells #[.int .i64 ei, .int .i64 ep, .string en, .string eor, .string es, .string ed, .string ea, .int .i64 ek, .int .i64 eu, .slice p3 n3 c3] 42)) (w.heap.size + 1) 42 #[.int .i64 di, .int .i64 dp, .string dn, .string dor, .string ds, .string dd, .string da, .int .i64 dk, .int .i64 du, .slice p1 n1 c1]) := hD4.alloc _
  have hO5 : Hid (Blk (x1.alloc (.cells #[.int .i64 ei, .int .i64 ep, .string en, .string eor, .string es, .string ed, .string ea, .int .i64 ek, .int .i64 eu, .slice p3 n3 c3] 42)) x1.heap.size 42 #[.int .i64 ei, .int .i64 ep, .string en, .string eor, .string es, .string ed, .string ea, .int .i64 ek, .int .i64 eu, .slice p3 n3 c3]) := Blk.new _ _ _
  have hpa5 : Hid (DevAt (x1.alloc (.cells #[.int .i64 ei, .int .i64 ep, .string en, .string eor, .string es, .string ed, .string ea, .int .i64 ek, .int .i64 eu, .slice p3 n3 c3] 42)) ⟨di, dp, dn, dor, ds, dd, da, dk, du, p1, n1, c1, pl⟩) := RowAt.below hpa4 ((Below.refl _ _).alloc (Nat.le_refl _) _)
  have hxa5 : Hid (DevAt (x1.alloc (.cells #[.int .i64 ei, .int .i64 ep, .string en, .string eor, .string es, .string ed, .string ea, .int .i64 ek, .int .i64 eu, .slice p3 n3 c3] 42)) ⟨ei, ep, en, eor, es, ed, ea, ek, eu, p3, n3, c3, pl2⟩) := RowAt.below hxa ((Below.refl _ _).alloc (Nat.le_refl _) _)
  have hTa5 : Hid (Tape (x1.alloc (.cells #[.int .i64 ei, .int .i64 ep, .string en, .string eor, .string es, .string ed, .string ea, .int .i64 ek, .int .i64 eu, .slice p3 n3 c3] 42)) w2.heap.size w2.heap.size q1) := hTx.below ((Below.refl _ _).alloc (Nat.le_refl _) _)
  have hb5 : Hid (Below w.heap.size w (x1.alloc (.cells #[.int .i64 ei, .int .i64 ep, .string en, .string eor, .string es, .string ed, .string ea, .int .i64 ek, .int .i64 eu, .slice p3 n3 c3] 42))) := hb4.alloc hb4.size _
  have hgo : w2.heap.size < x1.heap.size := hTx.lt.2
  have hxg' := Lib.hid hxg
  have hxo' := Lib.hid hxo
  clear hT4 hD4 hpa4 hxa hTx hb4 hOx hC hTt3 hD3 hpa3 hb3 hxg hxo
  unfold devV
  dsimp only
  go_upto_region 5 with fail
  generalize x1.alloc (.cells #[.int .i64 ei, .int .i64 ep, .string en, .string eor, .string es, .string ed, .string ea, .int .i64 ek, .int .i64 eu, .slice p3 n3 c3] 42) = w5 at *
  generalize x1.heap.size = ob at *
  obtain ⟨g, hgg⟩ : ∃ g, w2.heap.size = g := ⟨_, rfl⟩
  rw [hgg] at hTa5 hgo hg hw2' hlow hxo'
  rw [hgg]
  clear hgg
  have hM : Hid (∀ Y q, Tape Y g g q → q ≤ 100 → Only (fun j => j = g) w5 Y → Calls Try.prog 10 #[.pointer (some ⟨g, 0, none⟩)] Y fun e w' => ∃ (kk : Int) (nn : ByteArray) (oo : Int) (vv : ByteArray) (q' : Nat), e = .returned (.agg #[.int .i64 kk, .string nn, .int .i64 oo, .string vv]) ∧ vv.size ≤ 100 ∧ q' ≤ q + 7 ∧ Tape w' g g q' ∧ Only (fun j => j = g) w5 w') := fun Y q hT hq hO => (mterm_any g g q Y hT (by omega)).mono fun e w' ⟨kk, nn, oo, vv, q', h1, h2, h3, h4, h5⟩ => ⟨kk, nn, oo, vv, q', h1, h2, h3, h4, hO.trans h5⟩
  have hTa : Tape w5.drew g g q1 := tape_drew hTa5.out
  have hOa : Only (fun j => j = g) w5 w5.drew := (Only.refl _ _).drew
  have hqa : q1 ≤ 100 := by omega
  have hq7 : Hid (∀ q, q ≤ q1 + 7 → q ≤ 100) := fun q h => by omega
  have t0 := hT5.out.cell 0
  have t1 := hT5.out.cell 1
  have t2 := hT5.out.cell 2
  have t3 := hT5.out.cell 3
  simp only [List.getElem?_toArray, List.getElem?_cons_zero, List.getElem?_cons_succ] at t0 t1 t2 t3
  have hS0 : True ∧ w5.cell? ⟨w.heap.size, 0, none⟩ = some (.int .i64 k) ∧ w5.cell? ⟨w.heap.size, 1, none⟩ = some (.string n) ∧ w5.cell? ⟨w.heap.size, 2, none⟩ = some (.int .i64 o) ∧ w5.cell? ⟨w.heap.size, 3, none⟩ = some (.string v) := ⟨True.intro, t0, t1, t2, t3⟩
  have hS1 : True ∧ w5.drew.cell? ⟨w.heap.size, 0, none⟩ = some (.int .i64 k) ∧ w5.drew.cell? ⟨w.heap.size, 1, none⟩ = some (.string n) ∧ w5.drew.cell? ⟨w.heap.size, 2, none⟩ = some (.int .i64 o) ∧ w5.drew.cell? ⟨w.heap.size, 3, none⟩ = some (.string v) := ⟨True.intro, t0, t1, t2, t3⟩
  have hk : Hid (∀ y, Only (fun j => j = g) w5 y → True ∧ y.cell? ⟨w.heap.size, 0, none⟩ = some (.int .i64 k) ∧ y.cell? ⟨w.heap.size, 1, none⟩ = some (.string n) ∧ y.cell? ⟨w.heap.size, 2, none⟩ = some (.int .i64 o) ∧ y.cell? ⟨w.heap.size, 3, none⟩ = some (.string v)) := fun y h => by
    have e1 := hT5.out.only h (by have := hw2'.out; omega)
    exact ⟨True.intro, (e1.cell 0).trans rfl, (e1.cell 1).trans rfl, (e1.cell 2).trans rfl, (e1.cell 3).trans rfl⟩
  have hk2 : Hid (∀ y oj, Only (fun j => j = g) w5 y → True ∧ (y.alloc oj).cell? ⟨w.heap.size, 0, none⟩ = some (.int .i64 k) ∧ (y.alloc oj).cell? ⟨w.heap.size, 1, none⟩ = some (.string n) ∧ (y.alloc oj).cell? ⟨w.heap.size, 2, none⟩ = some (.int .i64 o) ∧ (y.alloc oj).cell? ⟨w.heap.size, 3, none⟩ = some (.string v)) := fun y oj h => hk.out _ (h.alloc oj)
  (first | (go_must (go_region_held3 (fun w' => True ∧ w'.cell? ⟨w.heap.size, 0, none⟩ = some (.int .i64 k) ∧ w'.cell? ⟨w.heap.size, 1, none⟩ = some (.string n) ∧ w'.cell? ⟨w.heap.size, 2, none⟩ = some (.int .i64 o) ∧ w'.cell? ⟨w.heap.size, 3, none⟩ = some (.string v))
    ((first | exact hS0 | exact hS1 | exact hk.out _ hOb | exact hk.out _ hOc | exact hk2.out _ _ hOc))
    (first | (go_at_call 10; first | (refine (hM.out _ _ hTb (hq7.out _ hqb) hOb).mono ?_; rintro e y2 ⟨k2, m2, o2, u2, q3, rfl, hz2, hqc, hTc, hOc⟩) | (refine (hM.out _ _ hTa hqa hOa).mono ?_; rintro e y1 ⟨k1, m1, o1, u1, q2, rfl, hz1, hqb, hTb, hOb⟩)) | fail))) | fail)
  have hrest := hk.out _ hOc
  have hD6 : Hid (Blk (y2.alloc (.cells #[.int .i64 k, .string n, .int .i64 o, .string v, .int .i64 k1, .string m1, .int .i64 o1, .string u1, .int .i64 k2, .string m2, .int .i64 o2, .string u2] 23)) (w.heap.size + 1) 42 #[.int .i64 di, .int .i64 dp, .string dn, .string dor, .string ds, .string dd, .string da, .int .i64 dk, .int .i64 du, .slice p1 n1 c1]) := (hD5.out.only hOc (by have := hw2'.out; omega)).alloc _
  have hO6 : Hid (Blk (y2.alloc (.cells #[.int .i64 k, .string n, .int .i64 o, .string v, .int .i64 k1, .string m1, .int .i64 o1, .string u1, .int .i64 k2, .string m2, .int .i64 o2, .string u2] 23)) ob 42 #[.int .i64 ei, .int .i64 ep, .string en, .string eor, .string es, .string ed, .string ea, .int .i64 ek, .int .i64 eu, .slice p3 n3 c3]) := (hO5.out.only hOc (by omega)).alloc _
  have hL6 : Hid (Blk (y2.alloc (.cells #[.int .i64 k, .string n, .int .i64 o, .string v, .int .i64 k1, .string m1, .int .i64 o1, .string u1, .int .i64 k2, .string m2, .int .i64 o2, .string u2] 23)) y2.heap.size 23 #[.int .i64 k, .string n, .int .i64 o, .string v, .int .i64 k1, .string m1, .int .i64 o1, .string u1, .int .i64 k2, .string m2, .int .i64 o2, .string u2]) := Blk.new _ _ _
  have hpa6 : Hid (DevAt (y2.alloc (.cells #[.int .i64 k, .string n, .int .i64 o, .string v, .int .i64 k1, .string m1, .int .i64 o1, .string u1, .int .i64 k2, .string m2, .int .i64 o2, .string u2] 23)) ⟨di, dp, dn, dor, ds, dd, da, dk, du, p1, n1, c1, pl⟩) := RowAt.below (DevAt.only hpa5.out hOc hlow.out) ((Below.refl _ _).alloc (Nat.le_refl _) _)
  have hxa6 : Hid (DevAt (y2.alloc (.cells #[.int .i64 k, .string n, .int .i64 o, .string v, .int .i64 k1, .string m1, .int .i64 o1, .string u1, .int .i64 k2, .string m2, .int .i64 o2, .string u2] 23)) ⟨ei, ep, en, eor, es, ed, ea, ek, eu, p3, n3, c3, pl2⟩) := RowAt.below (DevAt.only hxa5.out hOc hxo'.out) ((Below.refl _ _).alloc (Nat.le_refl _) _)
  have hb6 : Hid (Below w.heap.size w (y2.alloc (.cells #[.int .i64 k, .string n, .int .i64 o, .string v, .int .i64 k1, .string m1, .int .i64 o1, .string u1, .int .i64 k2, .string m2, .int .i64 o2, .string u2] 23))) := (hb5.out.trans (hOc.below (fun j e => by have e : j = g := e; omega) hb5.out.size)).alloc (hb5.out.trans (hOc.below (fun j e => by have e : j = g := e; omega) hb5.out.size)).size _
  have hz1' : u1.size ≤ 300 := by omega
  have hz2' : u2.size ≤ 300 := by omega
  have hv3 : v.size ≤ 300 := by omega
  clear hrest hS0 hS1 hk hk2 hTa hOa hqa hq7 hM hD5 hO5 hT5 hpa5 hxa5 hb5 hTa5 hTb hTc hOb hOc t0 t1 t2 t3 hz1 hz2 hlow hxo'
  go_upto_region 6 with fail
  generalize y2.alloc (.cells #[.int .i64 k, .string n, .int .i64 o, .string v, .int .i64 k1, .string m1, .int .i64 o1, .string u1, .int .i64 k2, .string m2, .int .i64 o2, .string u2] 23) = w6 at *
  generalize y2.heap.size = lb at *
  go_wp2_with fail
  go_loopw [10] (fun s12 wr => ∃ j : Nat, s12 = .int .i64 j ∧ j ≤ 3 ∧ Hid (Below w6.heap.size w6 wr)) (fun s12 _ => 3 - (intOf s12).toNat)
  case atStart => exact ⟨0, rfl, by omega, Below.refl _ _⟩
  case round =>
    obtain ⟨j, rfl, hj, hbr⟩ := hrel
    by_cases hj3 : j < 3
    · obtain ⟨kk, nn, oo, vv, hvv, hcell⟩ := three_at hL6.out hv3 hz1' hz2' hj3
      obtain ⟨c0, c1, c2, c3⟩ := hcell wr hbr.out
      have ij : (j : Int) < 3 := by omega
      have ij0 : (0 : Int) ≤ (j : Int) := by omega
      have hlb : lb < wr.heap.size := Nat.lt_of_lt_of_le hL6.out.lt hbr.out.size
      have hbx : Hid (Below w6.heap.size w6 (wr.alloc (.cells #[.int .i64 kk, .string nn, .int .i64 oo, .string vv] 23))) := hbr.out.alloc hbr.out.size _
      have hx : Hid (Blk (wr.alloc (.cells #[.int .i64 kk, .string nn, .int .i64 oo, .string vv] 23)) wr.heap.size 23 #[.int .i64 kk, .string nn, .int .i64 oo, .string vv]) := Blk.new _ _ _
      have hvv' := Lib.hid hvv
      clear hvv hcell
      go_upto_region 10 with fail
      clear c0 c1 c2 c3
      have hd : Hid (Blk (wr.alloc (.cells #[.int .i64 kk, .string nn, .int .i64 oo, .string vv] 23)) (w.heap.size + 1) 42 #[.int .i64 di, .int .i64 dp, .string dn, .string dor, .string ds, .string dd, .string da, .int .i64 dk, .int .i64 du, .slice p1 n1 c1]) := hD6.out.below hbx.out hD6.out.lt
      have ho : Hid (Blk (wr.alloc (.cells #[.int .i64 kk, .string nn, .int .i64 oo, .string vv] 23)) ob 42 #[.int .i64 ei, .int .i64 ep, .string en, .string eor, .string es, .string ed, .string ea, .int .i64 ek, .int .i64 eu, .slice p3 n3 c3]) := hO6.out.below hbx.out hO6.out.lt
      generalize wr.alloc (.cells #[.int .i64 kk, .string nn, .int .i64 oo, .string vv] 23) = wx at *
      generalize wr.heap.size = xb at *
      obtain ⟨ST, hST⟩ : ∃ b, stS kk oo = b := ⟨_, rfl⟩
      obtain ⟨UP, hUP⟩ : ∃ b, upS' kk oo = b := ⟨_, rfl⟩
      obtain ⟨F, hF⟩ : ∃ F, devS kk nn oo vv ⟨di, dp, dn, dor, ds, dd, da, dk, du, p1, n1, c1, pl⟩ = F := ⟨_, rfl⟩
      obtain ⟨G, hG⟩ : ∃ G, devS kk nn oo vv ⟨ei, ep, en, eor, es, ed, ea, ek, eu, p3, n3, c3, pl2⟩ = G := ⟨_, rfl⟩
      have hpx : Hid (DevAt wx ⟨di, dp, dn, dor, ds, dd, da, dk, du, p1, n1, c1, pl⟩) := RowAt.below hpa6.out hbx.out
      have hox : Hid (DevAt wx ⟨ei, ep, en, eor, es, ed, ea, ek, eu, p3, n3, c3, pl2⟩) := RowAt.below hxa6.out hbx.out
      have hv9 : vv.size ≤ 9223372036854775807 := by have := hvv'.out; omega
      have hSt : Hid (∀ Y, Below wx.heap.size wx Y → Calls Try.prog 16 #[.agg #[.int .i64 kk, .string nn, .int .i64 oo, .string vv]] Y fun e w' => e = .returned (.bool ST) ∧ Below wx.heap.size wx w') := fun Y h => (static_any kk nn oo vv Y).mono fun e w' ⟨h1, h2⟩ => ⟨by rw [← hST]; exact h1, h.trans (h2.mono h.size)⟩
      have hRst : Hid (∀ Y, Below wx.heap.size wx Y → Calls Try.prog 17 #[.agg #[.int .i64 kk, .string nn, .int .i64 oo, .string vv]] Y fun e w' => e = .returned (.bool ST) ∧ Below wx.heap.size wx w') := fun Y h => (rstatic_any kk nn oo vv Y).mono fun e w' ⟨h1, h2⟩ => ⟨by rw [← hST]; exact h1, h.trans (h2.mono h.size)⟩
      have hUp : Hid (∀ Y, Below wx.heap.size wx Y → Calls Try.prog 18 #[.agg #[.int .i64 kk, .string nn, .int .i64 oo, .string vv]] Y fun e w' => e = .returned (.bool UP) ∧ Below wx.heap.size wx w') := fun Y h => (upward_any kk nn oo vv Y).mono fun e w' ⟨h1, h2⟩ => ⟨by rw [← hUP]; exact h1, h.trans (h2.mono h.size)⟩
      have hRup : Hid (∀ Y, Below wx.heap.size wx Y → Calls Try.prog 19 #[.agg #[.int .i64 kk, .string nn, .int .i64 oo, .string vv]] Y fun e w' => e = .returned (.bool UP) ∧ Below wx.heap.size wx w') := fun Y h => (rupward_any kk nn oo vv Y).mono fun e w' ⟨h1, h2⟩ => ⟨by rw [← hUP]; exact h1, h.trans (h2.mono h.size)⟩
      have hDr : Hid (∀ Y, Below wx.heap.size wx Y → Calls Try.prog 14 #[.agg #[.int .i64 kk, .string nn, .int .i64 oo, .string vv], .agg #[.int .i64 di, .int .i64 dp, .string dn, .string dor, .string ds, .string dd, .string da, .int .i64 dk, .int .i64 du, .slice p1 n1 c1]] Y fun e w' => e = .returned (.bool F) ∧ Below wx.heap.size wx w') := fun Y h => (device_any kk nn oo vv ⟨di, dp, dn, dor, ds, dd, da, dk, du, p1, n1, c1, pl⟩ Y (RowAt.below hpx.out h) hxf'.out hv9).mono fun e w' ⟨h1, h2⟩ => ⟨by rw [← hF]; exact h1, h.trans (h2.mono h.size)⟩
      have hRr : Hid (∀ Y, Below wx.heap.size wx Y → Calls Try.prog 20 #[.agg #[.int .i64 kk, .string nn, .int .i64 oo, .string vv], .agg #[.int .i64 di, .int .i64 dp, .string dn, .string dor, .string ds, .string dd, .string da, .int .i64 dk, .int .i64 du, .slice p1 n1 c1]] Y fun e w' => e = .returned (.bool F) ∧ Below wx.heap.size wx w') := fun Y h => (rdevice_any kk nn oo vv ⟨di, dp, dn, dor, ds, dd, da, dk, du, p1, n1, c1, pl⟩ Y (RowAt.below hpx.out h) hxf'.out hv9).mono fun e w' ⟨h1, h2⟩ => ⟨by rw [← hF]; exact h1, h.trans (h2.mono h.size)⟩
      have hDo : Hid (∀ Y, Below wx.heap.size wx Y → Calls Try.prog 14 #[.agg #[.int .i64 kk, .string nn, .int .i64 oo, .string vv], .agg #[.int .i64 ei, .int .i64 ep, .string en, .string eor, .string es, .string ed, .string ea, .int .i64 ek, .int .i64 eu, .slice p3 n3 c3]] Y fun e w' => e = .returned (.bool G) ∧ Below wx.heap.size wx w') := fun Y h => (device_any kk nn oo vv ⟨ei, ep, en, eor, es, ed, ea, ek, eu, p3, n3, c3, pl2⟩ Y (RowAt.below hox.out h) hxg'.out hv9).mono fun e w' ⟨h1, h2⟩ => ⟨by rw [← hG]; exact h1, h.trans (h2.mono h.size)⟩
      have hRo : Hid (∀ Y, Below wx.heap.size wx Y → Calls Try.prog 20 #[.agg #[.int .i64 kk, .string nn, .int .i64 oo, .string vv], .agg #[.int .i64 ei, .int .i64 ep, .string en, .string eor, .string es, .string ed, .string ea, .int .i64 ek, .int .i64 eu, .slice p3 n3 c3]] Y fun e w' => e = .returned (.bool G) ∧ Below wx.heap.size wx w') := fun Y h => (rdevice_any kk nn oo vv ⟨ei, ep, en, eor, es, ed, ea, ek, eu, p3, n3, c3, pl2⟩ Y (RowAt.below hox.out h) hxg'.out hv9).mono fun e w' ⟨h1, h2⟩ => ⟨by rw [← hG]; exact h1, h.trans (h2.mono h.size)⟩
      have hSS : (ST != ST) = false := by cases ST <;> rfl
      have hUU : (UP != UP) = false := by cases UP <;> rfl
      have hFF : (F != F) = false := by cases F <;> rfl
      have hGG : (G != G) = false := by cases G <;> rfl
      clear hST hUP hF hG hpx hox hv9 hvv'
      have x0 := hx.out.cell 0
      have x1 := hx.out.cell 1
      have x2 := hx.out.cell 2
      have x3 := hx.out.cell 3
      simp only [List.getElem?_toArray, List.getElem?_cons_zero, List.getElem?_cons_succ] at x0 x1 x2 x3
      have d0 := hd.out.cell 0
      have d1 := hd.out.cell 1
      have d2 := hd.out.cell 2
      have d3 := hd.out.cell 3
      have d4 := hd.out.cell 4
      have d5 := hd.out.cell 5
      have d6 := hd.out.cell 6
      have d7 := hd.out.cell 7
      have d8 := hd.out.cell 8
      have d9 := hd.out.cell 9
      simp only [List.getElem?_toArray, List.getElem?_cons_zero, List.getElem?_cons_succ] at d0 d1 d2 d3 d4 d5 d6 d7 d8 d9
      have o0 := ho.out.cell 0
      have o1 := ho.out.cell 1
      have o2 := ho.out.cell 2
      have o3 := ho.out.cell 3
      have o4 := ho.out.cell 4
      have o5 := ho.out.cell 5
      have o6 := ho.out.cell 6
      have o7 := ho.out.cell 7
      have o8 := ho.out.cell 8
      have o9 := ho.out.cell 9
      simp only [List.getElem?_toArray, List.getElem?_cons_zero, List.getElem?_cons_succ] at o0 o1 o2 o3 o4 o5 o6 o7 o8 o9
      have hS0 : Below wx.heap.size wx wx ∧ wx.cell? ⟨xb, 0, none⟩ = some (.int .i64 kk) ∧ wx.cell? ⟨xb, 1, none⟩ = some (.string nn) ∧ wx.cell? ⟨xb, 2, none⟩ = some (.int .i64 oo) ∧ wx.cell? ⟨xb, 3, none⟩ = some (.string vv) ∧ wx.cell? ⟨(w.heap.size + 1), 0, none⟩ = some (.int .i64 di) ∧ wx.cell? ⟨(w.heap.size + 1), 1, none⟩ = some (.int .i64 dp) ∧ wx.cell? ⟨(w.heap.size + 1), 2, none⟩ = some (.string dn) ∧ wx.cell? ⟨(w.heap.size + 1), 3, none⟩ = some (.string dor) ∧ wx.cell? ⟨(w.heap.size + 1), 4, none⟩ = some (.string ds) ∧ wx.cell? ⟨(w.heap.size + 1), 5, none⟩ = some (.string dd) ∧ wx.cell? ⟨(w.heap.size + 1), 6, none⟩ = some (.string da) ∧ wx.cell? ⟨(w.heap.size + 1), 7, none⟩ = some (.int .i64 dk) ∧ wx.cell? ⟨(w.heap.size + 1), 8, none⟩ = some (.int .i64 du) ∧ wx.cell? ⟨(w.heap.size + 1), 9, none⟩ = some (.slice p1 n1 c1) ∧ wx.cell? ⟨ob, 0, none⟩ = some (.int .i64 ei) ∧ wx.cell? ⟨ob, 1, none⟩ = some (.int .i64 ep) ∧ wx.cell? ⟨ob, 2, none⟩ = some (.string en) ∧ wx.cell? ⟨ob, 3, none⟩ = some (.string eor) ∧ wx.cell? ⟨ob, 4, none⟩ = some (.string es) ∧ wx.cell? ⟨ob, 5, none⟩ = some (.string ed) ∧ wx.cell? ⟨ob, 6, none⟩ = some (.string ea) ∧ wx.cell? ⟨ob, 7, none⟩ = some (.int .i64 ek) ∧ wx.cell? ⟨ob, 8, none⟩ = some (.int .i64 eu) ∧ wx.cell? ⟨ob, 9, none⟩ = some (.slice p3 n3 c3) := ⟨Below.refl _ _, x0, x1, x2, x3, d0, d1, d2, d3, d4, d5, d6, d7, d8, d9, o0, o1, o2, o3, o4, o5, o6, o7, o8, o9⟩
      have hS1 : Below wx.heap.size wx wx.drew ∧ wx.drew.cell? ⟨xb, 0, none⟩ = some (.int .i64 kk) ∧ wx.drew.cell? ⟨xb, 1, none⟩ = some (.string nn) ∧ wx.drew.cell? ⟨xb, 2, none⟩ = some (.int .i64 oo) ∧ wx.drew.cell? ⟨xb, 3, none⟩ = some (.string vv) ∧ wx.drew.cell? ⟨(w.heap.size + 1), 0, none⟩ = some (.int .i64 di) ∧ wx.drew.cell? ⟨(w.heap.size + 1), 1, none⟩ = some (.int .i64 dp) ∧ wx.drew.cell? ⟨(w.heap.size + 1), 2, none⟩ = some (.string dn) ∧ wx.drew.cell? ⟨(w.heap.size + 1), 3, none⟩ = some (.string dor) ∧ wx.drew.cell? ⟨(w.heap.size + 1), 4, none⟩ = some (.string ds) ∧ wx.drew.cell? ⟨(w.heap.size + 1), 5, none⟩ = some (.string dd) ∧ wx.drew.cell? ⟨(w.heap.size + 1), 6, none⟩ = some (.string da) ∧ wx.drew.cell? ⟨(w.heap.size + 1), 7, none⟩ = some (.int .i64 dk) ∧ wx.drew.cell? ⟨(w.heap.size + 1), 8, none⟩ = some (.int .i64 du) ∧ wx.drew.cell? ⟨(w.heap.size + 1), 9, none⟩ = some (.slice p1 n1 c1) ∧ wx.drew.cell? ⟨ob, 0, none⟩ = some (.int .i64 ei) ∧ wx.drew.cell? ⟨ob, 1, none⟩ = some (.int .i64 ep) ∧ wx.drew.cell? ⟨ob, 2, none⟩ = some (.string en) ∧ wx.drew.cell? ⟨ob, 3, none⟩ = some (.string eor) ∧ wx.drew.cell? ⟨ob, 4, none⟩ = some (.string es) ∧ wx.drew.cell? ⟨ob, 5, none⟩ = some (.string ed) ∧ wx.drew.cell? ⟨ob, 6, none⟩ = some (.string ea) ∧ wx.drew.cell? ⟨ob, 7, none⟩ = some (.int .i64 ek) ∧ wx.drew.cell? ⟨ob, 8, none⟩ = some (.int .i64 eu) ∧ wx.drew.cell? ⟨ob, 9, none⟩ = some (.slice p3 n3 c3) := ⟨Below.drew (Below.refl _ _), x0, x1, x2, x3, d0, d1, d2, d3, d4, d5, d6, d7, d8, d9, o0, o1, o2, o3, o4, o5, o6, o7, o8, o9⟩
      have hk : Hid (∀ y, Below wx.heap.size wx y → Below wx.heap.size wx y ∧ y.cell? ⟨xb, 0, none⟩ = some (.int .i64 kk) ∧ y.cell? ⟨xb, 1, none⟩ = some (.string nn) ∧ y.cell? ⟨xb, 2, none⟩ = some (.int .i64 oo) ∧ y.cell? ⟨xb, 3, none⟩ = some (.string vv) ∧ y.cell? ⟨(w.heap.size + 1), 0, none⟩ = some (.int .i64 di) ∧ y.cell? ⟨(w.heap.size + 1), 1, none⟩ = some (.int .i64 dp) ∧ y.cell? ⟨(w.heap.size + 1), 2, none⟩ = some (.string dn) ∧ y.cell? ⟨(w.heap.size + 1), 3, none⟩ = some (.string dor) ∧ y.cell? ⟨(w.heap.size + 1), 4, none⟩ = some (.string ds) ∧ y.cell? ⟨(w.heap.size + 1), 5, none⟩ = some (.string dd) ∧ y.cell? ⟨(w.heap.size + 1), 6, none⟩ = some (.string da) ∧ y.cell? ⟨(w.heap.size + 1), 7, none⟩ = some (.int .i64 dk) ∧ y.cell? ⟨(w.heap.size + 1), 8, none⟩ = some (.int .i64 du) ∧ y.cell? ⟨(w.heap.size + 1), 9, none⟩ = some (.slice p1 n1 c1) ∧ y.cell? ⟨ob, 0, none⟩ = some (.int .i64 ei) ∧ y.cell? ⟨ob, 1, none⟩ = some (.int .i64 ep) ∧ y.cell? ⟨ob, 2, none⟩ = some (.string en) ∧ y.cell? ⟨ob, 3, none⟩ = some (.string eor) ∧ y.cell? ⟨ob, 4, none⟩ = some (.string es) ∧ y.cell? ⟨ob, 5, none⟩ = some (.string ed) ∧ y.cell? ⟨ob, 6, none⟩ = some (.string ea) ∧ y.cell? ⟨ob, 7, none⟩ = some (.int .i64 ek) ∧ y.cell? ⟨ob, 8, none⟩ = some (.int .i64 eu) ∧ y.cell? ⟨ob, 9, none⟩ = some (.slice p3 n3 c3)) := fun y h => by
        have ex := hx.out.below h hx.out.lt
        have ed := hd.out.below h hd.out.lt
        have eo := ho.out.below h ho.out.lt
        exact ⟨h, (ex.cell 0).trans rfl, (ex.cell 1).trans rfl, (ex.cell 2).trans rfl, (ex.cell 3).trans rfl, (ed.cell 0).trans rfl, (ed.cell 1).trans rfl, (ed.cell 2).trans rfl, (ed.cell 3).trans rfl, (ed.cell 4).trans rfl, (ed.cell 5).trans rfl, (ed.cell 6).trans rfl, (ed.cell 7).trans rfl, (ed.cell 8).trans rfl, (ed.cell 9).trans rfl, (eo.cell 0).trans rfl, (eo.cell 1).trans rfl, (eo.cell 2).trans rfl, (eo.cell 3).trans rfl, (eo.cell 4).trans rfl, (eo.cell 5).trans rfl, (eo.cell 6).trans rfl, (eo.cell 7).trans rfl, (eo.cell 8).trans rfl, (eo.cell 9).trans rfl⟩
      (first | (go_must (go_region_held3 (fun w' => Below wx.heap.size wx w' ∧ w'.cell? ⟨xb, 0, none⟩ = some (.int .i64 kk) ∧ w'.cell? ⟨xb, 1, none⟩ = some (.string nn) ∧ w'.cell? ⟨xb, 2, none⟩ = some (.int .i64 oo) ∧ w'.cell? ⟨xb, 3, none⟩ = some (.string vv) ∧ w'.cell? ⟨(w.heap.size + 1), 0, none⟩ = some (.int .i64 di) ∧ w'.cell? ⟨(w.heap.size + 1), 1, none⟩ = some (.int .i64 dp) ∧ w'.cell? ⟨(w.heap.size + 1), 2, none⟩ = some (.string dn) ∧ w'.cell? ⟨(w.heap.size + 1), 3, none⟩ = some (.string dor) ∧ w'.cell? ⟨(w.heap.size + 1), 4, none⟩ = some (.string ds) ∧ w'.cell? ⟨(w.heap.size + 1), 5, none⟩ = some (.string dd) ∧ w'.cell? ⟨(w.heap.size + 1), 6, none⟩ = some (.string da) ∧ w'.cell? ⟨(w.heap.size + 1), 7, none⟩ = some (.int .i64 dk) ∧ w'.cell? ⟨(w.heap.size + 1), 8, none⟩ = some (.int .i64 du) ∧ w'.cell? ⟨(w.heap.size + 1), 9, none⟩ = some (.slice p1 n1 c1) ∧ w'.cell? ⟨ob, 0, none⟩ = some (.int .i64 ei) ∧ w'.cell? ⟨ob, 1, none⟩ = some (.int .i64 ep) ∧ w'.cell? ⟨ob, 2, none⟩ = some (.string en) ∧ w'.cell? ⟨ob, 3, none⟩ = some (.string eor) ∧ w'.cell? ⟨ob, 4, none⟩ = some (.string es) ∧ w'.cell? ⟨ob, 5, none⟩ = some (.string ed) ∧ w'.cell? ⟨ob, 6, none⟩ = some (.string ea) ∧ w'.cell? ⟨ob, 7, none⟩ = some (.int .i64 ek) ∧ w'.cell? ⟨ob, 8, none⟩ = some (.int .i64 eu) ∧ w'.cell? ⟨ob, 9, none⟩ = some (.slice p3 n3 c3))
        ((first | exact hS0 | exact hS1 | exact hk.out _ hy1 | exact hk.out _ hy2 | exact hk.out _ hy3 | exact hk.out _ hy4 | exact hk.out _ hy5 | exact hk.out _ hy6 | exact hk.out _ hy7 | exact hk.out _ hy8))
        (first | (go_at_call 16; refine (hSt.out _ hS1.1).mono ?_; rintro e y1 ⟨rfl, hy1⟩) | (go_at_call 17; refine (hRst.out _ hy1).mono ?_; rintro e y2 ⟨rfl, hy2⟩) | (go_at_call 18; refine (hUp.out _ hy2).mono ?_; rintro e y3 ⟨rfl, hy3⟩) | (go_at_call 19; refine (hRup.out _ hy3).mono ?_; rintro e y4 ⟨rfl, hy4⟩) | (go_at_call 14; first | (refine (hDo.out _ hy6).mono ?_; rintro e y7 ⟨rfl, hy7⟩) | (refine (hDr.out _ hy4).mono ?_; rintro e y5 ⟨rfl, hy5⟩)) | (go_at_call 20; first | (refine (hRo.out _ hy7).mono ?_; rintro e y8 ⟨rfl, hy8⟩) | (refine (hRr.out _ hy5).mono ?_; rintro e y6 ⟨rfl, hy6⟩)) | fail))) | fail)
      have hfin := Lib.hid (hbx.out.trans (hy8.mono hbx.out.size))
      clear hy1 hy2 hy3 hy4 hy5 hy6 hy7 hy8 hk hS0 hS1 hx hd ho hSt hRst hUp hRup hDr hRr hDo hRo x0 x1 x2 x3 d0 d1 d2 d3 d4 d5 d6 d7 d8 d9 o0 o1 o2 o3 o4 o5 o6 o7 o8 o9
      go_wp2_with fail
      go_roundw
      case rel => exact ⟨j + 1, by go_num, by omega, hfin⟩
      case measure => simp [intOf]; omega
    · obtain rfl : j = 3 := by omega
      go_wp2_with fail
      refine (hK.out _ (hb6.out.trans (hbr.out.mono hb6.out.size))).mono ?_
      rintro e y ⟨rfl, hy⟩
      have hy' := Lib.hid hy; clear hy
      go_wp2_with fail
      go_ret
      exact ⟨rfl, hy'.out⟩

end Go.Proofs.Ytfihccfjboopiaa
