/-
  THE WALK of coldpluglaw12.MatchDrafts.
-/
import Derived.Test.YtfihccfjboopiaaMakeTerm
import Derived.Test.YtfihccfjboopiaaMakeDraft
import Derived.Test.YtfihccfjboopiaaRefDraft
import Derived.Test.YtfihccfjboopiaaMatchKnown
import Derived.Test.YtfihccfjboopiaaStructArg
namespace Go.Proofs.Ytfihccfjboopiaa
open Go.RowKit

/-- One of the three terms of the list. -/
theorem three_at {W : World} {lb : Nat} {k k1 k2 : Int} {n m1 m2 : ByteArray} {o o1 o2 : Int} {v u1 u2 : ByteArray} (h : Blk W lb 23 #[.int .i64 k, .string n, .int .i64 o, .string v, .int .i64 k1, .string m1, .int .i64 o1, .string u1, .int .i64 k2, .string m2, .int .i64 o2, .string u2]) (hv : v.size ≤ 300) (h1 : u1.size ≤ 300) (h2 : u2.size ≤ 300) {j : Nat} (hj : j < 3) :
    ∃ (kk : Int) (nn : ByteArray) (oo : Int) (vv : ByteArray), vv.size ≤ 300 ∧ ∀ Y, Below W.heap.size W Y → Y.cell? ⟨lb, j * 4, none⟩ = some (.int .i64 kk) ∧ Y.cell? ⟨lb, j * 4 + 1, none⟩ = some (.string nn) ∧ Y.cell? ⟨lb, j * 4 + 2, none⟩ = some (.int .i64 oo) ∧ Y.cell? ⟨lb, j * 4 + 3, none⟩ = some (.string vv) := by
  rcases (by omega : j = 0 ∨ j = 1 ∨ j = 2) with rfl | rfl | rfl
  · exact ⟨k, n, o, v, hv, fun Y hY => ⟨(h.below hY h.lt).cell 0, (h.below hY h.lt).cell 1, (h.below hY h.lt).cell 2, (h.below hY h.lt).cell 3⟩⟩
  · exact ⟨k1, m1, o1, u1, h1, fun Y hY => ⟨(h.below hY h.lt).cell 4, (h.below hY h.lt).cell 5, (h.below hY h.lt).cell 6, (h.below hY h.lt).cell 7⟩⟩
  · exact ⟨k2, m2, o2, u2, h2, fun Y hY => ⟨(h.below hY h.lt).cell 8, (h.below hY h.lt).cell 9, (h.below hY h.lt).cell 10, (h.below hY h.lt).cell 11⟩⟩

set_option maxRecDepth 100000 in
set_option maxHeartbeats 8000000 in
theorem drafts_walk (k : Int) (n : ByteArray) (o : Int) (v act : ByteArray) (x : Dft) (a : Option Addr) (N C : Nat) (w : World) (hact : act.size ≤ 9223372036854775807) (hxf : DftFit x) (hp : RawAt w x.pv 2 (x.pl.map attC)) (ht : RawAt w x.tv 1 (x.tl.map fun s => [.string s]))
    (hl1 : x.pl.length ≤ 9223372036854775807) (hl2 : x.tl.length ≤ 9223372036854775807) (hv0 : v.size ≤ 9223372036854775807) (hrow : 0 < N → ∃ y : Addr, a = some y ∧ ∀ i, i < N → ∃ z : Int, w.cell? (y.add i) = some (.int .i64 z)) :
    Calls Try.prog 3 #[termV k n o v, .string act, .agg (dftC x), .slice a N C] w fun e w' => e = .returned (.bool true) ∧ Below w.heap.size w w' := by
  obtain ⟨p1, c1, e1, _⟩ := hp.shape
  obtain ⟨p2, c2, e2, _⟩ := ht.shape
  obtain ⟨pv, tv, v2, v3, v4, nm, pr, ow, gr, md, rs, ca, ti, v13, pl, tl⟩ := x
  simp only at e1 e2 hp ht hl1 hl2
  rw [List.length_map] at e1 e2
  obtain ⟨n1, hn1⟩ : ∃ n1, pl.length = n1 := ⟨_, rfl⟩
  obtain ⟨n2, hn2⟩ : ∃ n2, tl.length = n2 := ⟨_, rfl⟩
  rw [hn1] at e1 hl1
  rw [hn2] at e2 hl2
  subst e1 e2
  have hpl := Lib.hid hn1; clear hn1
  have htl := Lib.hid hn2; clear hn2
  have hp' := Lib.hid hp; clear hp
  have ht' := Lib.hid ht; clear ht
  have hxf' := Lib.hid hxf; clear hxf
  have hact' := Lib.hid hact; clear hact
  have hrow' := Lib.hid hrow; clear hrow
  have hb2 : Hid (Below w.heap.size w ((w.alloc (.cells #[.int .i64 k, .string n, .int .i64 o, .string v] 23)).alloc (.cells #[.slice p1 n1 c1, .slice p2 n2 c2, v2, v3, v4, .string nm, .int .i64 pr, .string ow, .string gr, .int .i64 md, .string rs, .int .i64 ca, .int .i64 ti, v13] 28))) := ((Below.refl _ _).alloc (Nat.le_refl _) _).alloc (by simp) _
  have hT2 : Hid (Blk ((w.alloc (.cells #[.int .i64 k, .string n, .int .i64 o, .string v] 23)).alloc (.cells #[.slice p1 n1 c1, .slice p2 n2 c2, v2, v3, v4, .string nm, .int .i64 pr, .string ow, .string gr, .int .i64 md, .string rs, .int .i64 ca, .int .i64 ti, v13] 28)) w.heap.size 23 #[.int .i64 k, .string n, .int .i64 o, .string v]) := (Blk.new _ _ _).alloc _
  have hD2 : Hid (Blk ((w.alloc (.cells #[.int .i64 k, .string n, .int .i64 o, .string v] 23)).alloc (.cells #[.slice p1 n1 c1, .slice p2 n2 c2, v2, v3, v4, .string nm, .int .i64 pr, .string ow, .string gr, .int .i64 md, .string rs, .int .i64 ca, .int .i64 ti, v13] 28)) (w.heap.size + 1) 28 #[.slice p1 n1 c1, .slice p2 n2 c2, v2, v3, v4, .string nm, .int .i64 pr, .string ow, .string gr, .int .i64 md, .string rs, .int .i64 ca, .int .i64 ti, v13]) := Blk.new_ _ _ _ (by simp)
  have hs2 : Hid (((w.alloc (.cells #[.int .i64 k, .string n, .int .i64 o, .string v] 23)).alloc (.cells #[.slice p1 n1 c1, .slice p2 n2 c2, v2, v3, v4, .string nm, .int .i64 pr, .string ow, .string gr, .int .i64 md, .string rs, .int .i64 ca, .int .i64 ti, v13] 28)).heap.size = w.heap.size + 2) := by show ((w.alloc (.cells #[.int .i64 k, .string n, .int .i64 o, .string v] 23)).alloc (.cells #[.slice p1 n1 c1, .slice p2 n2 c2, v2, v3, v4, .string nm, .int .i64 pr, .string ow, .string gr, .int .i64 md, .string rs, .int .i64 ca, .int .i64 ti, v13] 28)).heap.size = _; simp
  have t3 := hT2.out.cell 3
  have d0 := hD2.out.cell 0
  have d1 := hD2.out.cell 1
  simp only [List.getElem?_toArray, List.getElem?_cons_zero, List.getElem?_cons_succ] at t3 d0 d1
  unfold termV dftC
  dsimp only
  go_enter Try.func3, Try.ntmps3
  have hK : Hid (∀ Y, Below w.heap.size w Y → Calls Try.prog 8 #[] Y fun e w' => e = .returned (.bool true) ∧ Below w.heap.size w w') := fun Y h => (mknown_any Y).mono fun e w' ⟨h1, h2⟩ => ⟨h1, h.trans (h2.mono h.size)⟩
  by_cases ib : (100 : Int) < wrap64 ((n1 : Int) + (n2 : Int))
  · go_wp2_with fail
    refine (hK.out _ hb2.out).mono ?_
    rintro e y ⟨rfl, hy⟩
    have hy' := Lib.hid hy; clear hy
    go_wp2_with fail
    go_ret
    exact ⟨rfl, hy'.out⟩
  by_cases hvb : 300 < v.size
  · have iv : (300 : Int) < (v.size : Int) := by omega
    go_wp2_with fail
    refine (hK.out _ hb2.out).mono ?_
    rintro e y ⟨rfl, hy⟩
    have hy' := Lib.hid hy; clear hy
    go_wp2_with fail
    go_ret
    exact ⟨rfl, hy'.out⟩
  have iv : ¬ (300 : Int) < (v.size : Int) := by omega
  have hpa : Hid (DftAt ((w.alloc (.cells #[.int .i64 k, .string n, .int .i64 o, .string v] 23)).alloc (.cells #[.slice p1 n1 c1, .slice p2 n2 c2, v2, v3, v4, .string nm, .int .i64 pr, .string ow, .string gr, .int .i64 md, .string rs, .int .i64 ca, .int .i64 ti, v13] 28)) ⟨.slice p1 n1 c1, .slice p2 n2 c2, v2, v3, v4, nm, pr, ow, gr, md, rs, ca, ti, v13, pl, tl⟩) := ⟨RowAt.below (hp'.out.row (by rw [List.length_map]; have := hpl.out; omega)) hb2.out, RowAt.below (ht'.out.row (by rw [List.length_map]; have := htl.out; omega)) hb2.out⟩
  have hrow2 : Hid (0 < N → ∃ y : Addr, a = some y ∧ ∀ i, i < N → ∃ z : Int, (((w.alloc (.cells #[.int .i64 k, .string n, .int .i64 o, .string v] 23)).alloc (.cells #[.slice p1 n1 c1, .slice p2 n2 c2, v2, v3, v4, .string nm, .int .i64 pr, .string ow, .string gr, .int .i64 md, .string rs, .int .i64 ca, .int .i64 ti, v13] 28))).cell? (y.add i) = some (.int .i64 z)) := fun h => by
    obtain ⟨y, hy, hz⟩ := hrow'.out h
    refine ⟨y, hy, fun i hi => ?_⟩
    obtain ⟨z, hz⟩ := hz i hi
    refine ⟨z, (World.cell?_of_block (hb2.out.block _ ?_)).trans hz⟩
    have := World.block_lt_of_cell? w _ hz
    exact this
  clear hp' ht' hrow' hpl htl
  go_upto_region 3 with fail
  clear ib iv t3 d0 d1
  generalize ((w.alloc (.cells #[.int .i64 k, .string n, .int .i64 o, .string v] 23)).alloc (.cells #[.slice p1 n1 c1, .slice p2 n2 c2, v2, v3, v4, .string nm, .int .i64 pr, .string ow, .string gr, .int .i64 md, .string rs, .int .i64 ca, .int .i64 ti, v13] 28)) = w2 at *
  have hw2 : w2.heap.size = w.heap.size + 2 := hs2.out
  have hw2' := Lib.hid hw2; clear hw2 hs2
  have hg : w.heap.size ≤ w2.heap.size := hb2.out.size
  have hT3 := tape_new a N C w2 hrow2.out
  have hb3 : Hid (Below w.heap.size w (w2.alloc (.cells #[.slice a N C, .int .i64 0] 33))) := hb2.out.alloc hg _
  have hTt3 : Hid (Blk (w2.alloc (.cells #[.slice a N C, .int .i64 0] 33)) w.heap.size 23 #[.int .i64 k, .string n, .int .i64 o, .string v]) := hT2.out.alloc _
  have hD3 : Hid (Blk (w2.alloc (.cells #[.slice a N C, .int .i64 0] 33)) (w.heap.size + 1) 28 #[.slice p1 n1 c1, .slice p2 n2 c2, v2, v3, v4, .string nm, .int .i64 pr, .string ow, .string gr, .int .i64 md, .string rs, .int .i64 ca, .int .i64 ti, v13]) := hD2.out.alloc _
  have hpa3 : Hid (DftAt (w2.alloc (.cells #[.slice a N C, .int .i64 0] 33)) ⟨.slice p1 n1 c1, .slice p2 n2 c2, v2, v3, v4, nm, pr, ow, gr, md, rs, ca, ti, v13, pl, tl⟩) := hpa.out.below ((Below.refl _ _).alloc (Nat.le_refl _) _)
  have hlow : Hid (∀ b o n c, (Value.slice p1 n1 c1 = .slice (some ⟨b, o, none⟩) n c ∨ Value.slice p2 n2 c2 = .slice (some ⟨b, o, none⟩) n c) → b ≠ w2.heap.size) := fun b o n c e hb => by
    subst hb
    rcases e with e | e
    · rcases hpa.out.1.2 with ⟨h, _⟩ | ⟨b', o', c', h, hlt, _⟩
      · have h' : Value.slice p1 n1 c1 = _ := h
        rw [h'] at e; cases e
      · have h' : Value.slice p1 n1 c1 = _ := h
        rw [h'] at e; cases e; omega
    · rcases hpa.out.2.2 with ⟨h, _⟩ | ⟨b', o', c', h, hlt, _⟩
      · have h' : Value.slice p2 n2 c2 = _ := h
        rw [h'] at e; cases e
      · have h' : Value.slice p2 n2 c2 = _ := h
        rw [h'] at e; cases e; omega
  have hC := Lib.hid (mdraft_any w2.heap.size w2.heap.size 0 _ hT3 (by omega))
  clear hT3 hT2 hD2 hpa hrow2 hb2
  go_wp2_with fail
  refine hC.out.mono ?_
  rintro e x1 ⟨x, q1, rfl, hq1, hxe, hxa, hxg, hxo, hTx, hOx⟩
  have hT4 : Blk x1 w.heap.size 23 #[.int .i64 k, .string n, .int .i64 o, .string v] := hTt3.out.only hOx (by have := hw2'.out; omega)
  have hD4 : Blk x1 (w.heap.size + 1) 28 #[.slice p1 n1 c1, .slice p2 n2 c2, v2, v3, v4, .string nm, .int .i64 pr, .string ow, .string gr, .int .i64 md, .string rs, .int .i64 ca, .int .i64 ti, v13] := hD3.out.only hOx (by have := hw2'.out; omega)
  have hpa4 : DftAt x1 ⟨.slice p1 n1 c1, .slice p2 n2 c2, v2, v3, v4, nm, pr, ow, gr, md, rs, ca, ti, v13, pl, tl⟩ := hpa3.out.only hOx ⟨fun b o n c e => hlow.out b o n c (.inl e), fun b o n c e => hlow.out b o n c (.inr e)⟩
  have hb4 : Below w.heap.size w x1 := hb3.out.trans (hOx.below (fun j e => by have e : j = w2.heap.size := e; omega) hb3.out.size)
  obtain ⟨p3, n3, c3, e3⟩ : ∃ p n c, x.pv = .slice p n c := by
    rcases hxa.1.2 with ⟨h, _⟩ | ⟨_, _, _, h, _⟩ <;> exact ⟨_, _, _, h⟩
  obtain ⟨p4, n4, c4, e4⟩ : ∃ p n c, x.tv = .slice p n c := by
    rcases hxa.2.2 with ⟨h, _⟩ | ⟨_, _, _, h, _⟩ <;> exact ⟨_, _, _, h⟩
  rw [e3, e4] at hxe
  clear e3 e4
  generalize x.rs = rs2 at hxe
  generalize x.pl = pl2 at hxe
  generalize x.tl = tl2 at hxe
  subst hxe
  have hT5 : Hid (Blk (x1.alloc (.cells #[.slice p3 n3 c3, .slice p4 n4 c4, .slice none 0 0, .slice none 0 0, .slice none 0 0, .string ⟨#[]⟩, .int .i64 0, .string ⟨#[]⟩, .string ⟨#[]⟩, .int .i64 0, .string rs2, .int .i64 0, .int .i64 0, .slice none 0 0] 28)) w.heap.size 23 #[.int .i64 k, .string n, .int .i64 o, .string v]) := hT4.alloc _
  have hD5 : Hid (Blk (x1.alloc (.cells #[.slice p3 n3 c3, .slice p4 n4 c4, .slice none 0 0, .slice none 0 0, .slice none 0 0, .string ⟨#[]⟩, .int .i64 0, .string ⟨#[]⟩, .string ⟨#[]⟩, .int .i64 0, .string rs2, .int .i64 0, .int .i64 0, .slice none 0 0] 28)) (w.heap.size + 1) 28 #[.slice p1 n1 c1, .slice p2 n2 c2, v2, v3, v4, .string nm, .int .i64 pr, .string ow, .string gr, .int .i64 md, .string rs, .int .i64 ca, .int .i64 ti, v13]) := hD4.alloc _
  have hO5 : Hid (Blk (x1.alloc (.cells #[.slice p3 n3 c3, .slice p4 n4 c4, .slice none 0 0, .slice none 0 0, .slice none 0 0, .string ⟨#[]⟩, .int .i64 0, .string ⟨#[]⟩, .string ⟨#[]⟩, .int .i64 0, .string rs2, .int .i64 0, .int .i64 0, .slice none 0 0] 28)) x1.heap.size 28 #[.slice p3 n3 c3, .slice p4 n4 c4, .slice none 0 0, .slice none 0 0, .slice none 0 0, .string ⟨#[]⟩, .int .i64 0, .string ⟨#[]⟩, .string ⟨#[]⟩, .int .i64 0, .string rs2, .int .i64 0, .int .i64 0, .slice none 0 0]) := Blk.new _ _ _
  have hpa5 : Hid (DftAt (x1.alloc (.cells #[.slice p3 n3 c3, .slice p4 n4 c4, .slice none 0 0, .slice none 0 0, .slice none 0 0, .string ⟨#[]⟩, .int .i64 0, .string ⟨#[]⟩, .string ⟨#[]⟩, .int .i64 0, .string rs2, .int .i64 0, .int .i64 0, .slice none 0 0] 28)) ⟨.slice p1 n1 c1, .slice p2 n2 c2, v2, v3, v4, nm, pr, ow, gr, md, rs, ca, ti, v13, pl, tl⟩) := hpa4.below ((Below.refl _ _).alloc (Nat.le_refl _) _)
  have hxa5 : Hid (DftAt (x1.alloc (.cells #[.slice p3 n3 c3, .slice p4 n4 c4, .slice none 0 0, .slice none 0 0, .slice none 0 0, .string ⟨#[]⟩, .int .i64 0, .string ⟨#[]⟩, .string ⟨#[]⟩, .int .i64 0, .string rs2, .int .i64 0, .int .i64 0, .slice none 0 0] 28)) (mkDft rs2 (.slice p3 n3 c3) (.slice p4 n4 c4) pl2 tl2)) := hxa.below ((Below.refl _ _).alloc (Nat.le_refl _) _)
  have hTa5 : Hid (Tape (x1.alloc (.cells #[.slice p3 n3 c3, .slice p4 n4 c4, .slice none 0 0, .slice none 0 0, .slice none 0 0, .string ⟨#[]⟩, .int .i64 0, .string ⟨#[]⟩, .string ⟨#[]⟩, .int .i64 0, .string rs2, .int .i64 0, .int .i64 0, .slice none 0 0] 28)) w2.heap.size w2.heap.size q1) := hTx.below ((Below.refl _ _).alloc (Nat.le_refl _) _)
  have hb5 : Hid (Below w.heap.size w (x1.alloc (.cells #[.slice p3 n3 c3, .slice p4 n4 c4, .slice none 0 0, .slice none 0 0, .slice none 0 0, .string ⟨#[]⟩, .int .i64 0, .string ⟨#[]⟩, .string ⟨#[]⟩, .int .i64 0, .string rs2, .int .i64 0, .int .i64 0, .slice none 0 0] 28))) := hb4.alloc hb4.size _
  have hgo : w2.heap.size < x1.heap.size := hTx.lt.2
  have hxg' := Lib.hid hxg
  have hxo' := Lib.hid hxo
  clear hT4 hD4 hpa4 hxa hTx hb4 hOx hC hTt3 hD3 hpa3 hb3 hxg hxo
  unfold dftC mkDft
  dsimp only
  go_upto_region 5 with fail
  generalize x1.alloc (.cells #[.slice p3 n3 c3, .slice p4 n4 c4, .slice none 0 0, .slice none 0 0, .slice none 0 0, .string ⟨#[]⟩, .int .i64 0, .string ⟨#[]⟩, .string ⟨#[]⟩, .int .i64 0, .string rs2, .int .i64 0, .int .i64 0, .slice none 0 0] 28) = w5 at *
  generalize x1.heap.size = ob at *
  obtain ⟨g, hgg⟩ : ∃ g, w2.heap.size = g := ⟨_, rfl⟩
  rw [hgg] at hTa5 hgo hg hw2' hlow hxo'
  rw [hgg]
  clear hgg
  have hM : Hid (∀ Y q, Tape Y g g q → q ≤ 100 → Only (fun j => j = g) w5 Y → Calls Try.prog 10 #[.pointer (some ⟨g, 0, none⟩)] Y fun e w' => ∃ (kk : Int) (nn : ByteArray) (oo : Int) (vv : ByteArray) (q' : Nat), e = .returned (.agg #[.int .i64 kk, .string nn, .int .i64 oo, .string vv]) ∧ vv.size ≤ 100 ∧ q' ≤ q + 7 ∧ Tape w' g g q' ∧ Only (fun j => j = g) w5 w') := fun Y q hT hq hO => (mterm_any g g q Y hT (by omega)).mono fun e w' ⟨kk, nn, oo, vv, q', h1, h2, h3, h4, h5⟩ => ⟨kk, nn, oo, vv, q', h1, h2, h3, h4, hO.trans h5⟩
  have hTa : Tape w5.drew g g q1 := tape_drew hTa5.out
  have hOa : Only (fun j => j = g) w5 w5.drew := (Only.refl _ _).drew
  have hqa : q1 ≤ 100 := by omega
  have hq7 : Hid (∀ q, q ≤ q1 + 7 → q ≤ 100) := fun q h => by omega
  have t0 := hT5.out.cell 0
  have t1 := hT5.out.cell 1
  have t2 := hT5.out.cell 2
  have t3 := hT5.out.cell 3
  simp only [List.getElem?_toArray, List.getElem?_cons_zero, List.getElem?_cons_succ] at t0 t1 t2 t3
  have hS0 : True ∧ w5.cell? ⟨w.heap.size, 0, none⟩ = some (.int .i64 k) ∧ w5.cell? ⟨w.heap.size, 1, none⟩ = some (.string n) ∧ w5.cell? ⟨w.heap.size, 2, none⟩ = some (.int .i64 o) ∧ w5.cell? ⟨w.heap.size, 3, none⟩ = some (.string v) := ⟨True.intro, t0, t1, t2, t3⟩
  have hS1 : True ∧ w5.drew.cell? ⟨w.heap.size, 0, none⟩ = some (.int .i64 k) ∧ w5.drew.cell? ⟨w.heap.size, 1, none⟩ = some (.string n) ∧ w5.drew.cell? ⟨w.heap.size, 2, none⟩ = some (.int .i64 o) ∧ w5.drew.cell? ⟨w.heap.size, 3, none⟩ = some (.string v) := ⟨True.intro, t0, t1, t2, t3⟩
  have hk : Hid (∀ y, Only (fun j => j = g) w5 y → True ∧ y.cell? ⟨w.heap.size, 0, none⟩ = some (.int .i64 k) ∧ y.cell? ⟨w.heap.size, 1, none⟩ = some (.string n) ∧ y.cell? ⟨w.heap.size, 2, none⟩ = some (.int .i64 o) ∧ y.cell? ⟨w.heap.size, 3, none⟩ = some (.string v)) := fun y h => by
    have e1 := hT5.out.only h (by have := hw2'.out; omega)
    exact ⟨True.intro, (e1.cell 0).trans rfl, (e1.cell 1).trans rfl, (e1.cell 2).trans rfl, (e1.cell 3).trans rfl⟩
  have hk2 : Hid (∀ y oj, Only (fun j => j = g) w5 y → True ∧ (y.alloc oj).cell? ⟨w.heap.size, 0, none⟩ = some (.int .i64 k) ∧ (y.alloc oj).cell? ⟨w.heap.size, 1, none⟩ = some (.string n) ∧ (y.alloc oj).cell? ⟨w.heap.size, 2, none⟩ = some (.int .i64 o) ∧ (y.alloc oj).cell? ⟨w.heap.size, 3, none⟩ = some (.string v)) := fun y oj h => hk.out _ (h.alloc oj)
  (first | (go_must (go_region_held3 (fun w' => True ∧ w'.cell? ⟨w.heap.size, 0, none⟩ = some (.int .i64 k) ∧ w'.cell? ⟨w.heap.size, 1, none⟩ = some (.string n) ∧ w'.cell? ⟨w.heap.size, 2, none⟩ = some (.int .i64 o) ∧ w'.cell? ⟨w.heap.size, 3, none⟩ = some (.string v))
    ((first | exact hS0 | exact hS1 | exact hk.out _ hOb | exact hk.out _ hOc | exact hk2.out _ _ hOc))
    (first | (go_at_call 10; first | (refine (hM.out _ _ hTb (hq7.out _ hqb) hOb).mono ?_; rintro e y2 ⟨k2, m2, o2, u2, q3, rfl, hz2, hqc, hTc, hOc⟩) | (refine (hM.out _ _ hTa hqa hOa).mono ?_; rintro e y1 ⟨k1, m1, o1, u1, q2, rfl, hz1, hqb, hTb, hOb⟩)) | fail))) | fail)
  have hrest := hk.out _ hOc
  have hD6 : Hid (Blk (y2.alloc (.cells #[.int .i64 k, .string n, .int .i64 o, .string v, .int .i64 k1, .string m1, .int .i64 o1, .string u1, .int .i64 k2, .string m2, .int .i64 o2, .string u2] 23)) (w.heap.size + 1) 28 #[.slice p1 n1 c1, .slice p2 n2 c2, v2, v3, v4, .string nm, .int .i64 pr, .string ow, .string gr, .int .i64 md, .string rs, .int .i64 ca, .int .i64 ti, v13]) := (hD5.out.only hOc (by have := hw2'.out; omega)).alloc _
  have hO6 : Hid (Blk (y2.alloc (.cells #[.int .i64 k, .string n, .int .i64 o, .string v, .int .i64 k1, .string m1, .int .i64 o1, .string u1, .int .i64 k2, .string m2, .int .i64 o2, .string u2] 23)) ob 28 #[.slice p3 n3 c3, .slice p4 n4 c4, .slice none 0 0, .slice none 0 0, .slice none 0 0, .string ⟨#[]⟩, .int .i64 0, .string ⟨#[]⟩, .string ⟨#[]⟩, .int .i64 0, .string rs2, .int .i64 0, .int .i64 0, .slice none 0 0]) := (hO5.out.only hOc (by omega)).alloc _
  have hL6 : Hid (Blk (y2.alloc (.cells #[.int .i64 k, .string n, .int .i64 o, .string v, .int .i64 k1, .string m1, .int .i64 o1, .string u1, .int .i64 k2, .string m2, .int .i64 o2, .string u2] 23)) y2.heap.size 23 #[.int .i64 k, .string n, .int .i64 o, .string v, .int .i64 k1, .string m1, .int .i64 o1, .string u1, .int .i64 k2, .string m2, .int .i64 o2, .string u2]) := Blk.new _ _ _
  have hpa6 : Hid (DftAt (y2.alloc (.cells #[.int .i64 k, .string n, .int .i64 o, .string v, .int .i64 k1, .string m1, .int .i64 o1, .string u1, .int .i64 k2, .string m2, .int .i64 o2, .string u2] 23)) ⟨.slice p1 n1 c1, .slice p2 n2 c2, v2, v3, v4, nm, pr, ow, gr, md, rs, ca, ti, v13, pl, tl⟩) := (hpa5.out.only hOc ⟨fun b o n c e => hlow.out b o n c (.inl e), fun b o n c e => hlow.out b o n c (.inr e)⟩).below ((Below.refl _ _).alloc (Nat.le_refl _) _)
  have hxa6 : Hid (DftAt (y2.alloc (.cells #[.int .i64 k, .string n, .int .i64 o, .string v, .int .i64 k1, .string m1, .int .i64 o1, .string u1, .int .i64 k2, .string m2, .int .i64 o2, .string u2] 23)) (mkDft rs2 (.slice p3 n3 c3) (.slice p4 n4 c4) pl2 tl2)) := (hxa5.out.only hOc hxo'.out).below ((Below.refl _ _).alloc (Nat.le_refl _) _)
  have hb6 : Hid (Below w.heap.size w (y2.alloc (.cells #[.int .i64 k, .string n, .int .i64 o, .string v, .int .i64 k1, .string m1, .int .i64 o1, .string u1, .int .i64 k2, .string m2, .int .i64 o2, .string u2] 23))) := (hb5.out.trans (hOc.below (fun j e => by have e : j = g := e; omega) hb5.out.size)).alloc (hb5.out.trans (hOc.below (fun j e => by have e : j = g := e; omega) hb5.out.size)).size _
  have hz1' : u1.size ≤ 300 := by omega
  have hz2' : u2.size ≤ 300 := by omega
  have hv3 : v.size ≤ 300 := by omega
  clear hrest hS0 hS1 hk hk2 hTa hOa hqa hq7 hM hD5 hO5 hT5 hpa5 hxa5 hb5 hTa5 hTb hTc hOb hOc t0 t1 t2 t3 hz1 hz2 hlow hxo'
  go_upto_region 6 with fail
  generalize y2.alloc (.cells #[.int .i64 k, .string n, .int .i64 o, .string v, .int .i64 k1, .string m1, .int .i64 o1, .string u1, .int .i64 k2, .string m2, .int .i64 o2, .string u2] 23) = w6 at *
  generalize y2.heap.size = lb at *
  go_wp2_with fail
  go_loopw [12] (fun s12 wr => ∃ j : Nat, s12 = .int .i64 j ∧ j ≤ 3 ∧ Hid (Below w6.heap.size w6 wr)) (fun s12 _ => 3 - (intOf s12).toNat)
  case atStart => exact ⟨0, rfl, by omega, Below.refl _ _⟩
  case round =>
    obtain ⟨j, rfl, hj, hbr⟩ := hrel
    by_cases hj3 : j < 3
    · obtain ⟨kk, nn, oo, vv, hvv, hcell⟩ := three_at hL6.out hv3 hz1' hz2' hj3
      obtain ⟨c0, c1, c2, c3⟩ := hcell wr hbr.out
      have ij : (j : Int) < 3 := by omega
      have ij0 : (0 : Int) ≤ (j : Int) := by omega
      have hlb : lb < wr.heap.size := Nat.lt_of_lt_of_le hL6.out.lt hbr.out.size
      have hbx : Hid (Below w6.heap.size w6 (wr.alloc (.cells #[.int .i64 kk, .string nn, .int .i64 oo, .string vv] 23))) := hbr.out.alloc hbr.out.size _
      have hx : Hid (Blk (wr.alloc (.cells #[.int .i64 kk, .string nn, .int .i64 oo, .string vv] 23)) wr.heap.size 23 #[.int .i64 kk, .string nn, .int .i64 oo, .string vv]) := Blk.new _ _ _
      have hvv' := Lib.hid hvv
      clear hvv hcell
      go_upto_region 10 with fail
      clear c0 c1 c2 c3
      have hd : Hid (Blk (wr.alloc (.cells #[.int .i64 kk, .string nn, .int .i64 oo, .string vv] 23)) (w.heap.size + 1) 28 #[.slice p1 n1 c1, .slice p2 n2 c2, v2, v3, v4, .string nm, .int .i64 pr, .string ow, .string gr, .int .i64 md, .string rs, .int .i64 ca, .int .i64 ti, v13]) := hD6.out.below hbx.out hD6.out.lt
      have ho : Hid (Blk (wr.alloc (.cells #[.int .i64 kk, .string nn, .int .i64 oo, .string vv] 23)) ob 28 #[.slice p3 n3 c3, .slice p4 n4 c4, .slice none 0 0, .slice none 0 0, .slice none 0 0, .string ⟨#[]⟩, .int .i64 0, .string ⟨#[]⟩, .string ⟨#[]⟩, .int .i64 0, .string rs2, .int .i64 0, .int .i64 0, .slice none 0 0]) := hO6.out.below hbx.out hO6.out.lt
      generalize wr.alloc (.cells #[.int .i64 kk, .string nn, .int .i64 oo, .string vv] 23) = wx at *
      generalize wr.heap.size = xb at *
      obtain ⟨F, hF⟩ : ∃ F, draftS kk nn oo vv act ⟨.slice p1 n1 c1, .slice p2 n2 c2, v2, v3, v4, nm, pr, ow, gr, md, rs, ca, ti, v13, pl, tl⟩ = F := ⟨_, rfl⟩
      obtain ⟨G, hG⟩ : ∃ G, draftS kk nn oo vv ⟨#[97, 100, 100]⟩ (mkDft rs2 (.slice p3 n3 c3) (.slice p4 n4 c4) pl2 tl2) = G := ⟨_, rfl⟩
      have hpx : Hid (DftAt wx ⟨.slice p1 n1 c1, .slice p2 n2 c2, v2, v3, v4, nm, pr, ow, gr, md, rs, ca, ti, v13, pl, tl⟩) := hpa6.out.below hbx.out
      have hox : Hid (DftAt wx (mkDft rs2 (.slice p3 n3 c3) (.slice p4 n4 c4) pl2 tl2)) := hxa6.out.below hbx.out
      have hv9 : vv.size ≤ 9223372036854775807 := by have := hvv'.out; omega
      have hDr : Hid (∀ Y, Below wx.heap.size wx Y → Calls Try.prog 11 #[.agg #[.int .i64 kk, .string nn, .int .i64 oo, .string vv], .string act, .agg #[.slice p1 n1 c1, .slice p2 n2 c2, v2, v3, v4, .string nm, .int .i64 pr, .string ow, .string gr, .int .i64 md, .string rs, .int .i64 ca, .int .i64 ti, v13]] Y fun e w' => e = .returned (.bool F) ∧ Below wx.heap.size wx w') := fun Y h => (draft_any kk nn oo vv act ⟨.slice p1 n1 c1, .slice p2 n2 c2, v2, v3, v4, nm, pr, ow, gr, md, rs, ca, ti, v13, pl, tl⟩ Y (hpx.out.below h) hxf'.out hv9 hact'.out).mono fun e w' ⟨h1, h2⟩ => ⟨by rw [← hF]; exact h1, h.trans (h2.mono h.size)⟩
      have hRr : Hid (∀ Y, Below wx.heap.size wx Y → Calls Try.prog 12 #[.agg #[.int .i64 kk, .string nn, .int .i64 oo, .string vv], .string act, .agg #[.slice p1 n1 c1, .slice p2 n2 c2, v2, v3, v4, .string nm, .int .i64 pr, .string ow, .string gr, .int .i64 md, .string rs, .int .i64 ca, .int .i64 ti, v13]] Y fun e w' => e = .returned (.bool F) ∧ Below wx.heap.size wx w') := fun Y h => (rdraft_any kk nn oo vv act ⟨.slice p1 n1 c1, .slice p2 n2 c2, v2, v3, v4, nm, pr, ow, gr, md, rs, ca, ti, v13, pl, tl⟩ Y (hpx.out.below h) hxf'.out hv9 hact'.out).mono fun e w' ⟨h1, h2⟩ => ⟨by rw [← hF]; exact h1, h.trans (h2.mono h.size)⟩
      have hDo : Hid (∀ Y, Below wx.heap.size wx Y → Calls Try.prog 11 #[.agg #[.int .i64 kk, .string nn, .int .i64 oo, .string vv], .string ⟨#[97, 100, 100]⟩, .agg #[.slice p3 n3 c3, .slice p4 n4 c4, .slice none 0 0, .slice none 0 0, .slice none 0 0, .string ⟨#[]⟩, .int .i64 0, .string ⟨#[]⟩, .string ⟨#[]⟩, .int .i64 0, .string rs2, .int .i64 0, .int .i64 0, .slice none 0 0]] Y fun e w' => e = .returned (.bool G) ∧ Below wx.heap.size wx w') := fun Y h => (draft_any kk nn oo vv ⟨#[97, 100, 100]⟩ (mkDft rs2 (.slice p3 n3 c3) (.slice p4 n4 c4) pl2 tl2) Y (hox.out.below h) hxg'.out hv9 (by decide)).mono fun e w' ⟨h1, h2⟩ => ⟨by rw [← hG]; exact h1, h.trans (h2.mono h.size)⟩
      have hRo : Hid (∀ Y, Below wx.heap.size wx Y → Calls Try.prog 12 #[.agg #[.int .i64 kk, .string nn, .int .i64 oo, .string vv], .string ⟨#[97, 100, 100]⟩, .agg #[.slice p3 n3 c3, .slice p4 n4 c4, .slice none 0 0, .slice none 0 0, .slice none 0 0, .string ⟨#[]⟩, .int .i64 0, .string ⟨#[]⟩, .string ⟨#[]⟩, .int .i64 0, .string rs2, .int .i64 0, .int .i64 0, .slice none 0 0]] Y fun e w' => e = .returned (.bool G) ∧ Below wx.heap.size wx w') := fun Y h => (rdraft_any kk nn oo vv ⟨#[97, 100, 100]⟩ (mkDft rs2 (.slice p3 n3 c3) (.slice p4 n4 c4) pl2 tl2) Y (hox.out.below h) hxg'.out hv9 (by decide)).mono fun e w' ⟨h1, h2⟩ => ⟨by rw [← hG]; exact h1, h.trans (h2.mono h.size)⟩
      have hFF : (F != F) = false := by cases F <;> rfl
      have hGG : (G != G) = false := by cases G <;> rfl
      clear hF hG hpx hox hv9 hvv'
      have x0 := hx.out.cell 0
      have x1 := hx.out.cell 1
      have x2 := hx.out.cell 2
      have x3 := hx.out.cell 3
      simp only [List.getElem?_toArray, List.getElem?_cons_zero, List.getElem?_cons_succ] at x0 x1 x2 x3
      have d0 := hd.out.cell 0
      have d1 := hd.out.cell 1
      have d2 := hd.out.cell 2
      have d3 := hd.out.cell 3
      have d4 := hd.out.cell 4
      have d5 := hd.out.cell 5
      have d6 := hd.out.cell 6
      have d7 := hd.out.cell 7
      have d8 := hd.out.cell 8
      have d9 := hd.out.cell 9
      have d10 := hd.out.cell 10
      have d11 := hd.out.cell 11
      have d12 := hd.out.cell 12
      have d13 := hd.out.cell 13
      simp only [List.getElem?_toArray, List.getElem?_cons_zero, List.getElem?_cons_succ] at d0 d1 d2 d3 d4 d5 d6 d7 d8 d9 d10 d11 d12 d13
      have o0 := ho.out.cell 0
      have o1 := ho.out.cell 1
      have o2 := ho.out.cell 2
      have o3 := ho.out.cell 3
      have o4 := ho.out.cell 4
      have o5 := ho.out.cell 5
      have o6 := ho.out.cell 6
      have o7 := ho.out.cell 7
      have o8 := ho.out.cell 8
      have o9 := ho.out.cell 9
      have o10 := ho.out.cell 10
      have o11 := ho.out.cell 11
      have o12 := ho.out.cell 12
      have o13 := ho.out.cell 13
      simp only [List.getElem?_toArray, List.getElem?_cons_zero, List.getElem?_cons_succ] at o0 o1 o2 o3 o4 o5 o6 o7 o8 o9 o10 o11 o12 o13
      have hS0 : Below wx.heap.size wx wx ∧ wx.cell? ⟨xb, 0, none⟩ = some (.int .i64 kk) ∧ wx.cell? ⟨xb, 1, none⟩ = some (.string nn) ∧ wx.cell? ⟨xb, 2, none⟩ = some (.int .i64 oo) ∧ wx.cell? ⟨xb, 3, none⟩ = some (.string vv) ∧ wx.cell? ⟨(w.heap.size + 1), 0, none⟩ = some (.slice p1 n1 c1) ∧ wx.cell? ⟨(w.heap.size + 1), 1, none⟩ = some (.slice p2 n2 c2) ∧ wx.cell? ⟨(w.heap.size + 1), 2, none⟩ = some (v2) ∧ wx.cell? ⟨(w.heap.size + 1), 3, none⟩ = some (v3) ∧ wx.cell? ⟨(w.heap.size + 1), 4, none⟩ = some (v4) ∧ wx.cell? ⟨(w.heap.size + 1), 5, none⟩ = some (.string nm) ∧ wx.cell? ⟨(w.heap.size + 1), 6, none⟩ = some (.int .i64 pr) ∧ wx.cell? ⟨(w.heap.size + 1), 7, none⟩ = some (.string ow) ∧ wx.cell? ⟨(w.heap.size + 1), 8, none⟩ = some (.string gr) ∧ wx.cell? ⟨(w.heap.size + 1), 9, none⟩ = some (.int .i64 md) ∧ wx.cell? ⟨(w.heap.size + 1), 10, none⟩ = some (.string rs) ∧ wx.cell? ⟨(w.heap.size + 1), 11, none⟩ = some (.int .i64 ca) ∧ wx.cell? ⟨(w.heap.size + 1), 12, none⟩ = some (.int .i64 ti) ∧ wx.cell? ⟨(w.heap.size + 1), 13, none⟩ = some (v13) ∧ wx.cell? ⟨ob, 0, none⟩ = some (.slice p3 n3 c3) ∧ wx.cell? ⟨ob, 1, none⟩ = some (.slice p4 n4 c4) ∧ wx.cell? ⟨ob, 2, none⟩ = some (.slice none 0 0) ∧ wx.cell? ⟨ob, 3, none⟩ = some (.slice none 0 0) ∧ wx.cell? ⟨ob, 4, none⟩ = some (.slice none 0 0) ∧ wx.cell? ⟨ob, 5, none⟩ = some (.string ⟨#[]⟩) ∧ wx.cell? ⟨ob, 6, none⟩ = some (.int .i64 0) ∧ wx.cell? ⟨ob, 7, none⟩ = some (.string ⟨#[]⟩) ∧ wx.cell? ⟨ob, 8, none⟩ = some (.string ⟨#[]⟩) ∧ wx.cell? ⟨ob, 9, none⟩ = some (.int .i64 0) ∧ wx.cell? ⟨ob, 10, none⟩ = some (.string rs2) ∧ wx.cell? ⟨ob, 11, none⟩ = some (.int .i64 0) ∧ wx.cell? ⟨ob, 12, none⟩ = some (.int .i64 0) ∧ wx.cell? ⟨ob, 13, none⟩ = some (.slice none 0 0) := ⟨Below.refl _ _, x0, x1, x2, x3, d0, d1, d2, d3, d4, d5, d6, d7, d8, d9, d10, d11, d12, d13, o0, o1, o2, o3, o4, o5, o6, o7, o8, o9, o10, o11, o12, o13⟩
      have hS1 : Below wx.heap.size wx wx.drew ∧ wx.drew.cell? ⟨xb, 0, none⟩ = some (.int .i64 kk) ∧ wx.drew.cell? ⟨xb, 1, none⟩ = some (.string nn) ∧ wx.drew.cell? ⟨xb, 2, none⟩ = some (.int .i64 oo) ∧ wx.drew.cell? ⟨xb, 3, none⟩ = some (.string vv) ∧ wx.drew.cell? ⟨(w.heap.size + 1), 0, none⟩ = some (.slice p1 n1 c1) ∧ wx.drew.cell? ⟨(w.heap.size + 1), 1, none⟩ = some (.slice p2 n2 c2) ∧ wx.drew.cell? ⟨(w.heap.size + 1), 2, none⟩ = some (v2) ∧ wx.drew.cell? ⟨(w.heap.size + 1), 3, none⟩ = some (v3) ∧ wx.drew.cell? ⟨(w.heap.size + 1), 4, none⟩ = some (v4) ∧ wx.drew.cell? ⟨(w.heap.size + 1), 5, none⟩ = some (.string nm) ∧ wx.drew.cell? ⟨(w.heap.size + 1), 6, none⟩ = some (.int .i64 pr) ∧ wx.drew.cell? ⟨(w.heap.size + 1), 7, none⟩ = some (.string ow) ∧ wx.drew.cell? ⟨(w.heap.size + 1), 8, none⟩ = some (.string gr) ∧ wx.drew.cell? ⟨(w.heap.size + 1), 9, none⟩ = some (.int .i64 md) ∧ wx.drew.cell? ⟨(w.heap.size + 1), 10, none⟩ = some (.string rs) ∧ wx.drew.cell? ⟨(w.heap.size + 1), 11, none⟩ = some (.int .i64 ca) ∧ wx.drew.cell? ⟨(w.heap.size + 1), 12, none⟩ = some (.int .i64 ti) ∧ wx.drew.cell? ⟨(w.heap.size + 1), 13, none⟩ = some (v13) ∧ wx.drew.cell? ⟨ob, 0, none⟩ = some (.slice p3 n3 c3) ∧ wx.drew.cell? ⟨ob, 1, none⟩ = some (.slice p4 n4 c4) ∧ wx.drew.cell? ⟨ob, 2, none⟩ = some (.slice none 0 0) ∧ wx.drew.cell? ⟨ob, 3, none⟩ = some (.slice none 0 0) ∧ wx.drew.cell? ⟨ob, 4, none⟩ = some (.slice none 0 0) ∧ wx.drew.cell? ⟨ob, 5, none⟩ = some (.string ⟨#[]⟩) ∧ wx.drew.cell? ⟨ob, 6, none⟩ = some (.int .i64 0) ∧ wx.drew.cell? ⟨ob, 7, none⟩ = some (.string ⟨#[]⟩) ∧ wx.drew.cell? ⟨ob, 8, none⟩ = some (.string ⟨#[]⟩) ∧ wx.drew.cell? ⟨ob, 9, none⟩ = some (.int .i64 0) ∧ wx.drew.cell? ⟨ob, 10, none⟩ = some (.string rs2) ∧ wx.drew.cell? ⟨ob, 11, none⟩ = some (.int .i64 0) ∧ wx.drew.cell? ⟨ob, 12, none⟩ = some (.int .i64 0) ∧ wx.drew.cell? ⟨ob, 13, none⟩ = some (.slice none 0 0) := ⟨Below.drew (Below.refl _ _), x0, x1, x2, x3, d0, d1, d2, d3, d4, d5, d6, d7, d8, d9, d10, d11, d12, d13, o0, o1, o2, o3, o4, o5, o6, o7, o8, o9, o10, o11, o12, o13⟩
      have hk : Hid (∀ y, Below wx.heap.size wx y → Below wx.heap.size wx y ∧ y.cell? ⟨xb, 0, none⟩ = some (.int .i64 kk) ∧ y.cell? ⟨xb, 1, none⟩ = some (.string nn) ∧ y.cell? ⟨xb, 2, none⟩ = some (.int .i64 oo) ∧ y.cell? ⟨xb, 3, none⟩ = some (.string vv) ∧ y.cell? ⟨(w.heap.size + 1), 0, none⟩ = some (.slice p1 n1 c1) ∧ y.cell? ⟨(w.heap.size + 1), 1, none⟩ = some (.slice p2 n2 c2) ∧ y.cell? ⟨(w.heap.size + 1), 2, none⟩ = some (v2) ∧ y.cell? ⟨(w.heap.size + 1), 3, none⟩ = some (v3) ∧ y.cell? ⟨(w.heap.size + 1), 4, none⟩ = some (v4) ∧ y.cell? ⟨(w.heap.size + 1), 5, none⟩ = some (.string nm) ∧ y.cell? ⟨(w.heap.size + 1), 6, none⟩ = some (.int .i64 pr) ∧ y.cell? ⟨(w.heap.size + 1), 7, none⟩ = some (.string ow) ∧ y.cell? ⟨(w.heap.size + 1), 8, none⟩ = some (.string gr) ∧ y.cell? ⟨(w.heap.size + 1), 9, none⟩ = some (.int .i64 md) ∧ y.cell? ⟨(w.heap.size + 1), 10, none⟩ = some (.string rs) ∧ y.cell? ⟨(w.heap.size + 1), 11, none⟩ = some (.int .i64 ca) ∧ y.cell? ⟨(w.heap.size + 1), 12, none⟩ = some (.int .i64 ti) ∧ y.cell? ⟨(w.heap.size + 1), 13, none⟩ = some (v13) ∧ y.cell? ⟨ob, 0, none⟩ = some (.slice p3 n3 c3) ∧ y.cell? ⟨ob, 1, none⟩ = some (.slice p4 n4 c4) ∧ y.cell? ⟨ob, 2, none⟩ = some (.slice none 0 0) ∧ y.cell? ⟨ob, 3, none⟩ = some (.slice none 0 0) ∧ y.cell? ⟨ob, 4, none⟩ = some (.slice none 0 0) ∧ y.cell? ⟨ob, 5, none⟩ = some (.string ⟨#[]⟩) ∧ y.cell? ⟨ob, 6, none⟩ = some (.int .i64 0) ∧ y.cell? ⟨ob, 7, none⟩ = some (.string ⟨#[]⟩) ∧ y.cell? ⟨ob, 8, none⟩ = some (.string ⟨#[]⟩) ∧ y.cell? ⟨ob, 9, none⟩ = some (.int .i64 0) ∧ y.cell? ⟨ob, 10, none⟩ = some (.string rs2) ∧ y.cell? ⟨ob, 11, none⟩ = some (.int .i64 0) ∧ y.cell? ⟨ob, 12, none⟩ = some (.int .i64 0) ∧ y.cell? ⟨ob, 13, none⟩ = some (.slice none 0 0)) := fun y h => by
        have ex := hx.out.below h hx.out.lt
        have ed := hd.out.below h hd.out.lt
        have eo := ho.out.below h ho.out.lt
        exact ⟨h, (ex.cell 0).trans rfl, (ex.cell 1).trans rfl, (ex.cell 2).trans rfl, (ex.cell 3).trans rfl, (ed.cell 0).trans rfl, (ed.cell 1).trans rfl, (ed.cell 2).trans rfl, (ed.cell 3).trans rfl, (ed.cell 4).trans rfl, (ed.cell 5).trans rfl, (ed.cell 6).trans rfl, (ed.cell 7).trans rfl, (ed.cell 8).trans rfl, (ed.cell 9).trans rfl, (ed.cell 10).trans rfl, (ed.cell 11).trans rfl, (ed.cell 12).trans rfl, (ed.cell 13).trans rfl, (eo.cell 0).trans rfl, (eo.cell 1).trans rfl, (eo.cell 2).trans rfl, (eo.cell 3).trans rfl, (eo.cell 4).trans rfl, (eo.cell 5).trans rfl, (eo.cell 6).trans rfl, (eo.cell 7).trans rfl, (eo.cell 8).trans rfl, (eo.cell 9).trans rfl, (eo.cell 10).trans rfl, (eo.cell 11).trans rfl, (eo.cell 12).trans rfl, (eo.cell 13).trans rfl⟩
      (first | (go_must (go_region_held3 (fun w' => Below wx.heap.size wx w' ∧ w'.cell? ⟨xb, 0, none⟩ = some (.int .i64 kk) ∧ w'.cell? ⟨xb, 1, none⟩ = some (.string nn) ∧ w'.cell? ⟨xb, 2, none⟩ = some (.int .i64 oo) ∧ w'.cell? ⟨xb, 3, none⟩ = some (.string vv) ∧ w'.cell? ⟨(w.heap.size + 1), 0, none⟩ = some (.slice p1 n1 c1) ∧ w'.cell? ⟨(w.heap.size + 1), 1, none⟩ = some (.slice p2 n2 c2) ∧ w'.cell? ⟨(w.heap.size + 1), 2, none⟩ = some (v2) ∧ w'.cell? ⟨(w.heap.size + 1), 3, none⟩ = some (v3) ∧ w'.cell? ⟨(w.heap.size + 1), 4, none⟩ = some (v4) ∧ w'.cell? ⟨(w.heap.size + 1), 5, none⟩ = some (.string nm) ∧ w'.cell? ⟨(w.heap.size + 1), 6, none⟩ = some (.int .i64 pr) ∧ w'.cell? ⟨(w.heap.size + 1), 7, none⟩ = some (.string ow) ∧ w'.cell? ⟨(w.heap.size + 1), 8, none⟩ = some (.string gr) ∧ w'.cell? ⟨(w.heap.size + 1), 9, none⟩ = some (.int .i64 md) ∧ w'.cell? ⟨(w.heap.size + 1), 10, none⟩ = some (.string rs) ∧ w'.cell? ⟨(w.heap.size + 1), 11, none⟩ = some (.int .i64 ca) ∧ w'.cell? ⟨(w.heap.size + 1), 12, none⟩ = some (.int .i64 ti) ∧ w'.cell? ⟨(w.heap.size + 1), 13, none⟩ = some (v13) ∧ w'.cell? ⟨ob, 0, none⟩ = some (.slice p3 n3 c3) ∧ w'.cell? ⟨ob, 1, none⟩ = some (.slice p4 n4 c4) ∧ w'.cell? ⟨ob, 2, none⟩ = some (.slice none 0 0) ∧ w'.cell? ⟨ob, 3, none⟩ = some (.slice none 0 0) ∧ w'.cell? ⟨ob, 4, none⟩ = some (.slice none 0 0) ∧ w'.cell? ⟨ob, 5, none⟩ = some (.string ⟨#[]⟩) ∧ w'.cell? ⟨ob, 6, none⟩ = some (.int .i64 0) ∧ w'.cell? ⟨ob, 7, none⟩ = some (.string ⟨#[]⟩) ∧ w'.cell? ⟨ob, 8, none⟩ = some (.string ⟨#[]⟩) ∧ w'.cell? ⟨ob, 9, none⟩ = some (.int .i64 0) ∧ w'.cell? ⟨ob, 10, none⟩ = some (.string rs2) ∧ w'.cell? ⟨ob, 11, none⟩ = some (.int .i64 0) ∧ w'.cell? ⟨ob, 12, none⟩ = some (.int .i64 0) ∧ w'.cell? ⟨ob, 13, none⟩ = some (.slice none 0 0))
        ((first | exact hS0 | exact hS1 | exact hk.out _ hy1 | exact hk.out _ hy2 | exact hk.out _ hy3 | exact hk.out _ hy4))
        (first | (go_at_call 11; first | (refine (hDo.out _ hy2).mono ?_; rintro e y3 ⟨rfl, hy3⟩) | (refine (hDr.out _ hS1.1).mono ?_; rintro e y1 ⟨rfl, hy1⟩)) | (go_at_call 12; first | (refine (hRo.out _ hy3).mono ?_; rintro e y4 ⟨rfl, hy4⟩) | (refine (hRr.out _ hy1).mono ?_; rintro e y2 ⟨rfl, hy2⟩)) | fail))) | fail)
      have hfin := Lib.hid (hbx.out.trans (hy4.mono hbx.out.size))
      clear hy1 hy2 hy3 hy4 hk hS0 hS1 hx hd ho hDr hRr hDo hRo x0 x1 x2 x3 d0 d1 d2 d3 d4 d5 d6 d7 d8 d9 d10 d11 d12 d13 o0 o1 o2 o3 o4 o5 o6 o7 o8 o9 o10 o11 o12 o13
      go_wp2_with fail
      go_roundw
      case rel => exact ⟨j + 1, by go_num, by omega, hfin⟩
      case measure => simp [intOf]; omega
    · obtain rfl : j = 3 := by omega
      go_wp2_with fail
      refine (hK.out _ (hb6.out.trans (hbr.out.mono hb6.out.size))).mono ?_
      rintro e y ⟨rfl, hy⟩
      have hy' := Lib.hid hy; clear hy
      go_wp2_with fail
      go_ret
      exact ⟨rfl, hy'.out⟩

end Go.Proofs.Ytfihccfjboopiaa
