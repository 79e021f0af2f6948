/-
  THE WALKS of coldplugworld.Tree and coldplugworld.Some: a sound tree, and a number.
-/
import Derived.Test.YtinjeijjfkkhbaaGreatDoorZAncP
import Derived.Test.YtinjeijjfkkhbaaGreatDoorZDev
import Derived.Test.YtinjeijjfkkhbaaGreatDoorZInsert
namespace Go.Proofs.YtinjeijjfkkhbaaGreatDoor
open Go.RowKit

/-- A row is untouched by a store into a block that holds a slice alone. -/
theorem RowAt.store {W W' : World} {v : Value} {sz b n c : Nat} {l : List (List Value)} {t : TypeId} {a : Option Addr} (h : RowAt W v sz l) (h0 : ∀ xs ∈ l, ∀ u, xs[0]? = some u → ∀ a n c, u ≠ Value.slice a n c) (hb : Blk W b t #[.slice a n c]) (ho : Only (fun j => j = b) W W') : RowAt W' v sz l := by
  refine ⟨h.1, ?_⟩
  rcases h.2 with h | ⟨g, o, cap, rfl, hg, hc⟩
  · exact .inl h
  · refine .inr ⟨g, o, cap, rfl, by have := ho.size; omega, fun k xs hx j u hu => ?_⟩
    have h1 := hc k xs hx j u hu
    by_cases e : g = b
    · subst e
      rw [hb.cell] at h1
      have h3 : o + k * sz + j = 0 := by
        have h4 := (Array.getElem?_eq_some_iff.1 h1).1
        simp at h4
        omega
      rw [h3] at h1
      have hj : j = 0 := by omega
      subst hj
      simp at h1
      exact absurd h1.symm (h0 xs (List.mem_of_getElem? hx) u hu a n c)
    · exact (World.cell?_of_block (ho.block g hg e)).trans h1
theorem devs_no (l : List Dev) : ∀ xs ∈ l.map devC, ∀ u, xs[0]? = some u → ∀ a n c, u ≠ Value.slice a n c := fun xs hx u hu a n c => by
  obtain ⟨d, _, rfl⟩ := List.mem_map.1 hx
  cases hu
  exact fun e => by cases e
theorem atts_no (l : List Att) : ∀ xs ∈ l.map attC, ∀ u, xs[0]? = some u → ∀ a n c, u ≠ Value.slice a n c := fun xs hx u hu a n c => by
  obtain ⟨d, _, rfl⟩ := List.mem_map.1 hx
  cases hu
  exact fun e => by cases e

/-- A sound tree in memory; its numbers are at most K. -/
structure TreeOk (W : World) (g K : Nat) (p : Option Addr) (n c : Nat) (l : List Dev) : Prop where
  row : RowAt W (.slice p n c) 10 (l.map devC)
  atts : ∀ d ∈ l, DevAt W d
  len : l.length = n
  cap : n ≤ c
  few : n ≤ K
  off : Off g (.slice p n c)
  each : ∀ d ∈ l, (DevSm d ∧ DevFit d ∧ DevOff g d ∧ Neat d.att d.aa d.an d.ac) ∧ 1 ≤ d.idx ∧ d.idx ≤ (K : Int) ∧ 0 ≤ d.par
  sound : Sound l
theorem TreeOk.only {W W' : World} {g K n c : Nat} {p : Option Addr} {l : List Dev} (h : TreeOk W g K p n c l) (ho : Only (fun j => j = g) W W') : TreeOk W' g K p n c l :=
  { h with row := h.row.only ho h.off, atts := fun d hd => (h.atts d hd).only ho (h.each d hd).1.2.2.1 }
theorem TreeOk.below {W W' : World} {g K n c : Nat} {p : Option Addr} {l : List Dev} (h : TreeOk W g K p n c l) (hb : Below W.heap.size W W') : TreeOk W' g K p n c l :=
  { h with row := h.row.below hb, atts := fun d hd => RowAt.below (h.atts d hd) hb }
theorem TreeOk.store {W W' : World} {g K n c b m k : Nat} {p a : Option Addr} {l : List Dev} {t : TypeId} (h : TreeOk W g K p n c l) (hb : Blk W b t #[.slice a m k]) (ho : Only (fun j => j = b) W W') : TreeOk W' g K p n c l :=
  { h with row := h.row.store (devs_no l) hb ho, atts := fun d hd => RowAt.store (h.atts d hd) (atts_no d.att) hb ho }
theorem TreeOk.devs {W : World} {g K n c : Nat} {p : Option Addr} {l : List Dev} (h : TreeOk W g K p n c l) : DevsAt W (.slice p n c) l := ⟨h.row, h.atts⟩
theorem TreeOk.more {W : World} {g K n c : Nat} {p : Option Addr} {l : List Dev} (h : TreeOk W g K p n c l) : TreeOk W g (K + 1) p n c l :=
  { h with few := by have := h.few; omega, each := fun d hd => ⟨(h.each d hd).1, (h.each d hd).2.1, by have := (h.each d hd).2.2.1; omega, (h.each d hd).2.2.2⟩ }
theorem TreeOk.nil (W : World) (g K : Nat) : TreeOk W g K none 0 0 [] where
  row := ⟨by simp, .inl ⟨rfl, rfl⟩⟩
  atts := fun d hd => by cases hd
  len := rfl
  cap := Nat.le_refl _
  few := Nat.zero_le _
  off := off_nil _ _ _
  each := fun d hd => by cases hd
  sound := ⟨List.Pairwise.nil, fun d hd => by cases hd⟩
theorem NewDev.below {W W' : World} {g : Nat} {M : Int} {l : List Dev} {d : Dev} (h : NewDev W g M l d) (hb : Below W.heap.size W W') : NewDev W' g M l d := { h with dat := RowAt.below h.dat hb }
theorem put_mem {l : List Dev} {k : Nat} {d x : Dev} (hx : x ∈ l.take k ++ d :: l.drop k) : x = d ∨ x ∈ l := by
  rcases List.mem_append.1 hx with hx | hx
  · exact .inr (List.mem_of_mem_take hx)
  · rcases List.mem_cons.1 hx with hx | hx
    · exact .inl hx
    · exact .inr (List.mem_of_mem_drop hx)
theorem OwnV.cap {w : World} {B n c : Nat} {p : Option Addr} {L : List Dev} (h : OwnV w B p n c L) : n ≤ c := by
  rcases h.2.2 with ⟨h1, h2⟩ | ⟨g, cap, cur, h1, _, _, h2, _⟩
  · cases h1; omega
  · cases h1; exact h2
theorem TreeOk.put {Y W' : World} {g K n c k m cp : Nat} {p q : Option Addr} {l : List Dev} {d : Dev} (h : TreeOk Y g K p n c l) (nd : NewDev Y g K l d) (hb : Below Y.heap.size Y W') (hown : OwnV W' Y.heap.size q m cp (l.take k ++ d :: l.drop k)) (hg : g < Y.heap.size) (hk : k ≤ l.length) (hK : K ≤ 100) :
    TreeOk W' g (K + 1) q m cp (l.take k ++ d :: l.drop k) := by
  have hm : m = n + 1 := by
    rw [← hown.1, ← h.len]
    simp
    omega
  have hf := h.few
  refine ⟨hown.row (by omega), fun x hx => ?_, hown.1, hown.cap, by omega, fun b o n' c' e => ?_, fun x hx => ?_, h.sound.put nd.above nd.par k⟩
  · rcases put_mem hx with rfl | hx
    · exact RowAt.below nd.dat hb
    · exact RowAt.below (h.atts x hx) hb
  · cases e
    have := World.ownsRow.lt hown.2 b rfl
    omega
  · rcases put_mem hx with rfl | hx
    · exact ⟨⟨nd.sm, nd.fit, nd.off, nd.neat⟩, nd.lo, by have := nd.hi; omega, nd.par0⟩
    · exact ⟨(h.each x hx).1, (h.each x hx).2.1, by have := (h.each x hx).2.2.1; omega, (h.each x hx).2.2.2⟩

/-- What holds in a round of Tree. -/
structure TS (w : World) (m : Int) (B g K : Nat) (p : Option Addr) (n c : Nat) (l : List Dev) (q : Nat) (W : World) : Prop where
  tree : TreeOk W g K p n c l
  var : Blk W (w.heap.size + 1) 30 #[.slice p n c]
  res : Blk W w.heap.size 30 #[.slice none 0 0]
  tape : Tape W B g q
  only : Only (fun j => j = g) w W
  mx : MaxIs m W
  gw : g < w.heap.size
  g0 : 0 < g
section
variable {w W W' : World} {m : Int} {B g K n c q q' : Nat} {p : Option Addr} {l : List Dev}
theorem MaxIs.only (h : MaxIs m W) (ho : Only (fun j => j = g) W W') (hg : 0 < g) : MaxIs m W' := (World.cell?_of_block (ho.block 0 h.lt (by omega))).trans h
theorem TS.call (h : TS w m B g K p n c l q W) (hT : Tape W' B g q') (hO : Only (fun j => j = g) W W') : TS w m B g K p n c l q' W' :=
  ⟨h.tree.only hO, h.var.only hO (by have := h.gw; omega), h.res.only hO (by have := h.gw; omega), hT, h.only.trans hO, h.mx.only hO h.g0, h.gw, h.g0⟩
theorem TS.below (h : TS w m B g K p n c l q W) (hb : Below W.heap.size W W') : TS w m B g K p n c l q W' :=
  h.call (h.tape.below hb) (Only.of_below hb fun k h1 h2 => by omega)
theorem TS.drew (h : TS w m B g K p n c l q W) : TS w m B g K p n c l q W.drew := h.below (Below.refl _ _).drew
theorem TS.alloc (h : TS w m B g K p n c l q W) (o : Obj) : TS w m B g K p n c l q (W.alloc o) := h.below ((Below.refl _ _).alloc (Nat.le_refl _) _)
theorem ts_device (h : TS w m B g K p n c l q W) (hq : q ≤ 90000) (hK : K ≤ 100) :
    Calls Tryz.prog 18 #[.pointer (some ⟨g, 0, none⟩), .agg #[.slice p n c]] W fun e w' => ∃ (d : Dev) (q' : Nat), e = .returned (devV d) ∧ q' ≤ q + 22 ∧ NewDev w' g K l d ∧ TS w m B g K p n c l q' w' ∧ Only (fun j => j = g) W w' := by
  have hf := h.tree.few
  refine (zdevice_any l p n c (K : Int) B g q W h.tree.row h.tree.off (by omega) h.tree.len (by omega) (by omega) (fun x hx => ⟨(h.tree.each x hx).2.1, (h.tree.each x hx).2.2.1⟩) h.tape hq).mono ?_
  rintro e w' ⟨d, q', he, hq', hn, hT, hO⟩
  exact ⟨d, q', he, hq', hn, h.call hT hO, hO⟩
theorem ts_insert {d : Dev} (h : TS w m B g K p n c l q W) (hK : K ≤ 100) (nd : NewDev W g K l d) :
    Calls Tryz.prog 17 #[.agg #[.slice p n c], devV d] W fun e w' => ∃ (p' : Option Addr) (m' c' : Nat) (er : Int), e = .returned (.tuple #[.agg #[.slice p' m' c'], .int .i64 er]) ∧ (er = 0 → ∃ l', TreeOk w' g (K + 1) p' m' c' l') ∧ TS w m B g K p n c l q w' ∧ Below W.heap.size W w' := by
  have hf := h.tree.few
  refine (rinsert_any l p n c d m W h.tree.devs (by omega) h.tree.cap (fun x hx => (h.tree.each x hx).1.1) nd.dat nd.sm h.mx).mono ?_
  rintro e w' ⟨hp, hb⟩
  rcases hp with ⟨er, he, rfl⟩ | ⟨k, m', cp, qq, hk, rfl, hown⟩
  · exact ⟨none, 0, 0, er, rfl, fun e => absurd e he, h.below hb, hb⟩
  · exact ⟨qq, m', cp, 0, rfl, fun _ => ⟨_, h.tree.put nd hb hown (by have := h.gw; have := h.only.size; omega) hk hK⟩, h.below hb, hb⟩
/-- The new tree is laid into its cell. -/
theorem ts_fin {nb m' c' : Nat} {p' : Option Addr} {er : Int} (h : TS w m B g K p n c l q W) (hN : Blk W nb 30 #[.slice none 0 0]) (hok : er = 0 → ∃ l', TreeOk W g (K + 1) p' m' c' l') (hnb : w.heap.size + 1 < nb) :
    (er = 0 → ∃ l', TreeOk (W.setCell ⟨nb, 0, none⟩ (.slice p' m' c')) g (K + 1) p' m' c' l') ∧ TS w m B g K p n c l q (W.setCell ⟨nb, 0, none⟩ (.slice p' m' c')) ∧ Blk (W.setCell ⟨nb, 0, none⟩ (.slice p' m' c')) nb 30 #[.slice p' m' c'] ∧ w.heap.size + 1 < nb := by
  have hgw := h.gw
  have hOw : Only (fun j => j = nb) W (W.setCell ⟨nb, 0, none⟩ (.slice p' m' c')) := Only.setCell (S := fun j => j = nb) (Only.refl _ _) (p := ⟨nb, 0, none⟩) (.inl rfl) _
  exact ⟨fun e => (hok e).imp fun _ ht => ht.store hN hOw, ⟨h.tree.store hN hOw, h.var.only hOw (by omega), h.res.only hOw (by omega), h.tape.only hOw (by omega) (fun j e => by have := h.tape.lt; omega), h.only.step hOw fun j e => .inr (by omega), (World.cell?_of_block (hOw.block 0 h.mx.lt (by omega))).trans h.mx, h.gw, h.g0⟩, hN.store 0 _, hnb⟩
theorem ts_fin2 {m' c' : Nat} {p' : Option Addr} {er : Int} (h : TS w m B g K p n c l q W) (hok : er = 0 → ∃ l', TreeOk W g (K + 1) p' m' c' l') :
    (er = 0 → ∃ l', TreeOk (W.alloc (.cells #[.slice p' m' c'] 30)) g (K + 1) p' m' c' l') ∧ TS w m B g K p n c l q (W.alloc (.cells #[.slice p' m' c'] 30)) ∧ Blk (W.alloc (.cells #[.slice p' m' c'] 30)) W.heap.size 30 #[.slice p' m' c'] ∧ w.heap.size + 1 < W.heap.size :=
  ⟨fun e => (hok e).imp fun _ ht => ht.below ((Below.refl _ _).alloc (Nat.le_refl _) _), h.alloc _, Blk.new _ _ _, h.var.lt⟩
end

set_option maxRecDepth 100000 in
set_option maxHeartbeats 8000000 in
theorem ztree_any (B g q0 : Nat) (m : Int) (w : World) (hT : Tape w B g q0) (hq0 : q0 ≤ 80000) (hm : MaxIs m w) (hg0 : 0 < g) :
    Calls Tryz.prog 6 #[.pointer (some ⟨g, 0, none⟩), .int .i64 9] w fun e w' => ∃ (p : Option Addr) (n c : Nat) (l : List Dev) (q : Nat), e = .returned (.agg #[.slice p n c]) ∧ TreeOk w' g 9 p n c l ∧ q ≤ q0 + 300 ∧ Tape w' B g q ∧ Only (fun j => j = g) w w' := by
  have hgw : g < w.heap.size := hT.lt.2
  have hb0 : Below w.heap.size w ((w.alloc (.cells #[.slice none 0 0] 30)).alloc (.cells #[.slice none 0 0] 30)) := ((Below.refl _ _).alloc (Nat.le_refl _) _).alloc (by simp) _
  have hO0 : Only (fun j => j = g) w ((w.alloc (.cells #[.slice none 0 0] 30)).alloc (.cells #[.slice none 0 0] 30)) := Only.of_below hb0 fun k h1 h2 => by omega
  have hS0 : Hid (TS w m B g 0 none 0 0 [] q0 ((w.alloc (.cells #[.slice none 0 0] 30)).alloc (.cells #[.slice none 0 0] 30))) :=
    ⟨TreeOk.nil _ _ _, Blk.new_ _ _ _ (by simp), (Blk.new _ _ _).alloc _, hT.below hb0, hO0, hm.below hb0, hgw, hg0⟩
  clear hb0 hO0
  have hC := Lib.hid (next_any B g q0 10 _ hS0.out.tape (by omega) (by omega) (by omega))
  clear hT hm
  go_enter Tryz.func6, Tryz.ntmps6
  go_wp2_with fail
  refine hC.out.mono ?_
  rintro e x1 ⟨⟨r, hr, rfl⟩, hTx, hOx⟩
  have hS1 := Lib.hid (hS0.out.call hTx hOx)
  clear hTx hOx hC hS0
  go_wp2_with fail
  go_loopw [6] (fun s6 wr => ∃ (k K q : Nat) (p : Option Addr) (n c : Nat) (l : List Dev), s6 = .int .i64 k ∧ k + K = r ∧ q ≤ q0 + 1 + 22 * K ∧ Hid (TS w m B g K p n c l q wr)) (fun s6 _ => (intOf s6).toNat)
  case atStart => exact ⟨r, 0, q0 + 1, none, 0, 0, [], rfl, by omega, by omega, hS1⟩
  case round =>
    clear hS1
    obtain ⟨k, K, q, p, n, c, l, rfl, hkK, hq, hS⟩ := hrel
    by_cases hk0 : 0 < k
    · have ik : (0 : Int) < (k : Int) := by omega
      go_upto_region 5 with fail
      go_cut [7, 8, 17] (fun s7 s8 s17 wx => ∃ (nb : Nat) (p' : Option Addr) (m' c' q' : Nat) (er : Int), s7 = .pointer (some ⟨nb, 0, none⟩) ∧ s8 = .int .i64 er ∧ q' ≤ q + 22 ∧ w.heap.size + 1 < nb ∧ Hid (er = 0 → ∃ l', TreeOk wx g (K + 1) p' m' c' l') ∧ Hid (TS w m B g K p n c l q' wx) ∧ Hid (Blk wx nb 30 #[.slice p' m' c']))
      case first =>
        have hq9 : q ≤ 90000 := by omega
        have hK9 : K ≤ 100 := by omega
        have hDv := Lib.hid (fun Y (h : TS w m B g K p n c l q Y) => ts_device h hq9 hK9)
        have hIn := Lib.hid (fun Y (d : Dev) q' (h : TS w m B g K p n c l q' Y) (nd : NewDev Y g K l d) => ts_insert h hK9 nd)
        have hS0' := Lib.hid hS.out.drew
        have hSA := Lib.hid (hS.out.alloc (.cells #[.slice none 0 0] 30)).drew
        have hvr : Hid (∀ Y q', TS w m B g K p n c l q' Y → Y.cell? ⟨w.heap.size + 1, 0, none⟩ = some (.slice p n c)) := fun Y q' h => h.var.cell 0
        have v0 := hvr.out _ _ hS0'.out
        have vA := hvr.out _ _ (hS.out.alloc (.cells #[.slice none 0 0] 30))
        have vA2 := hvr.out _ _ hSA.out
        have hwr : w.heap.size + 1 < wr.heap.size := hS.out.var.lt
        have hNA : Hid (∀ Y, Only (fun j => j = g) (wr.alloc (.cells #[.slice none 0 0] 30)).drew Y → Blk Y wr.heap.size 30 #[.slice none 0 0]) := fun Y h => Blk.only (S := fun j => j = g) (Blk.new wr 30 #[.slice none 0 0]).drew h (by omega)
        go_region_law (first
          | (go_simp; go_at_call 18; refine (hDv.out _ (by first | exact hS0'.out | exact hSA.out)).mono ?_; rintro e y1 ⟨d, q1, rfl, hq1, hnd, hT1, hO1⟩; have vB := hvr.out _ _ hT1; have vB2 := hvr.out _ _ (hT1.alloc (.cells #[.slice none 0 0] 30)); try (have bA := hNA.out _ hO1))
          | (go_simp; go_at_call 17; refine (hIn.out _ d q1 (by first | exact hT1 | exact hT1.alloc _) (by first | exact hnd | exact hnd.below ((Below.refl _ _).alloc (Nat.le_refl _) _))).mono ?_; rintro e y2 ⟨p', m', c', er, rfl, hput, hT2, hb2⟩; (first | (have nA := bA.below hb2 bA.lt; have nA0 := nA.cell 0; have nA1 := nA.frozen 0; have nA2 := Lib.hid (ts_fin hT2 nA hput hwr); clear bA nA) | (have nB := (Blk.new y1 30 #[.slice none 0 0]).below hb2 (Blk.new y1 30 #[.slice none 0 0]).lt; have nB0 := nB.cell 0; have nB1 := nB.frozen 0; have nB2 := Lib.hid (ts_fin hT2 nB hput hT1.var.lt); clear nB) | (have nC := Blk.new y2 30 #[.slice none 0 0]; have nC0 := nC.cell 0; have nC1 := nC.frozen 0; have nC2 := Lib.hid (ts_fin2 hT2 hput); clear nC)))
          | fail)
        all_goals
          first
          | (have nA3 := nA2; clear nA2 nA0 nA1)
          | (have nA3 := nB2; clear nB2 nB0 nB1)
          | (have nA3 := nC2; clear nC2 nC0 nC1)
        all_goals
          clear hput hT2 hb2 hnd hT1 hO1 vB vB2 v0 vA vA2
          go_wp2_with fail
          go_meet
          case rel => exact ⟨_, p', m', c', q1, er, rfl, rfl, hq1, nA3.out.2.2.2, nA3.out.1, nA3.out.2.1, nA3.out.2.2.1⟩
      case rest =>
        obtain ⟨nb, p', m', c', q', er, rfl, rfl, hq', hnb, hok, hS2, hN⟩ := hcut
        clear hS
        generalize wc = v2 at *
        by_cases he0 : er = 0
        · subst he0
          obtain ⟨l', hok'⟩ := hok.out rfl
          have hone : (#[.slice p' m' c'] : Array Value).all (·.oneCell') = true := by simp [Value.oneCell']
          have hOw : Only (fun j => j = w.heap.size + 1) v2 (v2.setRow (w.heap.size + 1) #[.slice p' m' c']) := Only.setRow (S := fun j => j = w.heap.size + 1) (Only.refl _ _) (g := w.heap.size + 1) (.inl rfl) _
          have hvar := Lib.hid hS2.out.var
          have hS3 : Hid (TS w m B g (K + 1) p' m' c' l' q' (v2.setRow (w.heap.size + 1) #[.slice p' m' c'])) :=
            ⟨hok'.store hS2.out.var hOw, hS2.out.var.row _, hS2.out.res.only hOw (by omega), hS2.out.tape.only hOw (by omega) (fun j e => by have := hS2.out.tape.lt; omega), hS2.out.only.step hOw fun j e => .inr (by omega), (World.cell?_of_block (hOw.block 0 hS2.out.mx.lt (by omega))).trans hS2.out.mx, hgw, hg0⟩
          clear hOw hok hok' hS2
          go_wp2_with (first
            | (refine wpList_load_row rfl 30 (.tmp 7) rfl nb rfl 30 _ (0, 0) _ hN.out Tryz.underlying30 rfl rfl ?_)
            | (refine wpList_store_row rfl 30 (.tmp 5) (.tmp 27) rfl (w.heap.size + 1) #[.slice p' m' c'] rfl rfl 30 #[.slice p n c] hvar.out (sizeTree _ rfl) rfl hone ?_)
            | fail)
          go_roundw
          case rel => exact ⟨k - 1, K + 1, q', p', m', c', l', by go_num, by omega, by omega, hS3⟩
          case measure => simp [intOf]; omega
        · have n0 : (er == 0) = false := by simpa using he0
          have hS3 : Hid (TS w m B g (K + 1) p n c l q' v2) := { hS2.out with tree := hS2.out.tree.more }
          clear hok hS2 hN
          go_wp2_with fail
          go_roundw
          case rel => exact ⟨k - 1, K + 1, q', p, n, c, l, by go_num, by omega, by omega, hS3⟩
          case measure => simp [intOf]; omega
    · obtain rfl : k = 0 := by omega
      have hone : (#[.slice p n c] : Array Value).all (·.oneCell') = true := by simp [Value.oneCell']
      have hvar := Lib.hid hS.out.var
      have hres := Lib.hid hS.out.res
      have hOw : Only (fun j => j = w.heap.size) wr (wr.setRow w.heap.size #[.slice p n c]) := Only.setRow (S := fun j => j = w.heap.size) (Only.refl _ _) (g := w.heap.size) (.inl rfl) _
      have hfin : Hid (∃ (p1 : Option Addr) (n1 c1 : Nat) (l1 : List Dev) (q1 : Nat), Ending.returned (.agg #[.slice p n c]) = .returned (.agg #[.slice p1 n1 c1]) ∧ TreeOk (wr.setRow w.heap.size #[.slice p n c]) g 9 p1 n1 c1 l1 ∧ q1 ≤ q0 + 300 ∧ Tape (wr.setRow w.heap.size #[.slice p n c]) B g q1 ∧ Only (fun j => j = g) w (wr.setRow w.heap.size #[.slice p n c])) := by
        have ht := hS.out.tree.store hS.out.res hOw
        exact ⟨p, n, c, l, q, rfl, { ht with few := by have := ht.few; omega, each := fun d hd => ⟨(ht.each d hd).1, (ht.each d hd).2.1, by have := (ht.each d hd).2.2.1; omega, (ht.each d hd).2.2.2⟩ }, by omega, hS.out.tape.only hOw (by omega) (fun j e => by have := hS.out.tape.lt; omega), hS.out.only.step hOw fun j e => .inr (by omega)⟩
      clear hOw hS
      go_wp2_with (first
        | (refine wpList_load_row rfl 30 (.tmp 5) rfl (w.heap.size + 1) rfl 30 _ (0, 0) _ hvar.out Tryz.underlying30 rfl rfl ?_)
        | (refine wpList_store_row rfl 30 (.tmp 4) (.tmp 28) rfl w.heap.size #[.slice p n c] rfl rfl 30 #[.slice none 0 0] hres.out (sizeTree _ rfl) rfl hone ?_)
        | fail)
      exact bodyPost_ret (results_cell_row rfl _ _ w.heap.size 30 _ (0, 0) _ rfl (hres.out.row _) Tryz.underlying30 rfl (by kernel_rfl)) rfl hfin.out

set_option maxRecDepth 100000 in
set_option maxHeartbeats 4000000 in
theorem zsome_any (B g q0 : Nat) (p : Option Addr) (n c : Nat) (l : List Dev) (w : World) (ht : TreeOk w g 9 p n c l) (hT : Tape w B g q0) (hq0 : q0 ≤ 90000) :
    Calls Tryz.prog 7 #[.pointer (some ⟨g, 0, none⟩), .agg #[.slice p n c]] w fun e w' => ∃ (i : Int) (q : Nat), e = .returned (.int .i64 i) ∧ -1 ≤ i ∧ i ≤ 100 ∧ q ≤ q0 + 2 ∧ Tape w' B g q ∧ Only (fun j => j = g) w w' := by
  have hgw : g < w.heap.size := hT.lt.2
  have hn9 : n ≤ 9 := ht.few
  have hb0 : Below w.heap.size w (w.alloc (.cells #[.slice p n c] 30)) := (Below.refl _ _).alloc (Nat.le_refl _) _
  have hX : Hid (Blk (w.alloc (.cells #[.slice p n c] 30)) w.heap.size 30 #[.slice p n c]) := Blk.new _ _ _
  have hTa : Hid (Tape (w.alloc (.cells #[.slice p n c] 30)) B g q0) := hT.below hb0
  have hO : Hid (Only (fun j => j = g) w (w.alloc (.cells #[.slice p n c] 30))) := (Only.refl _ _).alloc _
  have hl := Lib.hid (fun (W : World) (h : Only (fun j => j = g) w W) => ht.row.only h ht.off)
  have hidx := Lib.hid (fun x hx => ((ht.each x hx).2))
  clear hT hb0 ht
  go_enter Tryz.func7, Tryz.ntmps7
  go_upto_region 1 with fail
  generalize w.alloc (.cells #[.slice p n c] 30) = w0 at *
  have cX := hX.out.cell 0
  simp only [List.getElem?_toArray, List.getElem?_cons_zero] at cX
  by_cases hn0 : 0 < n
  · have ik : (0 : Int) < (n : Int) := by omega
    have hC := Lib.hid (next_any B g q0 8 _ hTa.out (by omega) (by omega) (by omega))
    go_wp2_with fail
    refine hC.out.mono ?_
    rintro e x1 ⟨⟨r, hr, rfl⟩, hTx, hOx⟩
    have hT1 := Lib.hid hTx
    have hO1 := Lib.hid (hO.out.trans hOx)
    have hX1 := Lib.hid (hX.out.only hOx (by omega))
    clear hTx hOx hC hTa hO hX cX
    by_cases hr0 : 0 < r
    · have ir : (0 : Int) < (r : Int) := by omega
      go_upto_region 3 with fail
      obtain ⟨x0, gx, ox, hx0, rfl, hc0⟩ := rowDev_cell (hl.out x1 hO1.out) (Below.refl x1.heap.size x1) hn0
      clear hx0 hc0
      have cX := hX1.out.drew.cell 0
      simp only [List.getElem?_toArray, List.getElem?_cons_zero] at cX
      have hk1 : Hid (∀ Y, Only (fun j => j = g) x1 Y → Y.cell? ⟨w.heap.size, 0, none⟩ = some (.slice (some ⟨gx, ox, none⟩) n c)) := fun Y h => ((hX1.out.only h (by omega)).cell 0)
      have hC := Lib.hid (fun (Y : World) (h : Y = x1.drew) => (next_any B g (q0 + 1) n Y (by rw [h]; exact tape_drew hT1.out) (by omega) (by omega) (by omega)).mono fun e w' (h2 : (∃ r : Nat, r < n ∧ e = .returned (.int .i64 r)) ∧ Tape w' B g (q0 + 1 + 1) ∧ Only (fun j => j = g) Y w') => (show (∃ r : Nat, r < n ∧ e = .returned (.int .i64 r)) ∧ Tape w' B g (q0 + 1 + 1) ∧ Only (fun j => j = g) x1 w' from ⟨h2.1, h2.2.1, ((Only.refl _ x1).drew).trans (by rw [← h]; exact h2.2.2)⟩))
      have hel : Hid (∀ (Y : World) (j : Nat), Only (fun j => j = g) x1 Y → j < n → ∃ x : Dev, x ∈ l ∧ Y.cell? ⟨gx, ox + j * 10, none⟩ = some (.int .i64 x.idx)) := fun Y j hO hj => by
        obtain ⟨x, g2, o2, hx, hp, hc⟩ := rowDev_cell (hl.out Y (hO1.out.trans hO)) (Below.refl Y.heap.size Y) hj
        cases hp
        have e0 := hc 0 _ rfl
        rw [Nat.add_zero] at e0
        exact ⟨x, List.mem_of_getElem? hx, e0⟩
      go_region_law (go_simp; go_at_call 16; refine (hC.out _ rfl).mono ?_; rintro e y7 ⟨⟨r2, hr2, rfl⟩, hTx, hOx⟩; have cX2 := hk1.out y7 hOx; obtain ⟨x, hxl, e0⟩ := hel.out y7 r2 hOx hr2; have ir0 : (0 : Int) ≤ (r2 : Int) := (by omega); have ir2 : (r2 : Int) < (n : Int) := (by omega))
      all_goals
        have hxi := hidx.out x hxl
        have hO7 := hO1.out.trans hOx
        clear cX2 e0
        go_wp2_with fail
        go_ret
        exact ⟨x.idx, q0 + 2, rfl, by omega, by omega, by omega, hTx, hO7⟩
    · obtain rfl : r = 0 := by omega
      have hC := Lib.hid (next_any B g (q0 + 1) 40 _ hT1.out (by omega) (by omega) (by omega))
      go_wp2_with fail
      refine hC.out.mono ?_
      rintro e x2 ⟨⟨r2, hr2, rfl⟩, hTx, hOx⟩
      have hO2 := hO1.out.trans hOx
      clear hC hOx
      go_wp2_with fail
      go_ret
      exact ⟨(r2 : Int) - 1, q0 + 2, by go_num, by omega, by omega, by omega, hTx, hO2⟩
  · obtain rfl : n = 0 := by omega
    have hC := Lib.hid (next_any B g q0 40 _ hTa.out (by omega) (by omega) (by omega))
    go_wp2_with fail
    refine hC.out.mono ?_
    rintro e x2 ⟨⟨r2, hr2, rfl⟩, hTx, hOx⟩
    have hO2 := hO.out.trans hOx
    clear hC hOx
    go_wp2_with fail
    go_ret
    exact ⟨(r2 : Int) - 1, q0 + 1, by go_num, by omega, by omega, by omega, hTx, hO2⟩

end Go.Proofs.YtinjeijjfkkhbaaGreatDoor
