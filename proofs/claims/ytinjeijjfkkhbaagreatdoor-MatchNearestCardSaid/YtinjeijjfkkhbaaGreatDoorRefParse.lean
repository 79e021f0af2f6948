/-
  THE WALK of coldplugref02.Parse.
-/
import Derived.Test.YtinjeijjfkkhbaaGreatDoorRefSet
import Derived.Test.YtinjeijjfkkhbaaGreatDoorRefRows
import Derived.Test.YtinjeijjfkkhbaaGreatDoorGlobParse
namespace Go.Proofs.YtinjeijjfkkhbaaGreatDoor
open Go.RowKit

theorem info_slR : (Tryz.prog.info? 124).map (fun i => (i.zero, i.size, i.bytes)) = some (some (.slice none 0 0), 1, 24) := by kernel_rfl
theorem run_nilR (W : World) : (Instr.buildSlice 120 1 #[(0, .slice none 0 0)]).run Tryz.prog W = .ok (.slice (some ⟨W.heap.size, 0, none⟩) 1 1) (W.alloc (.cells #[.slice none 0 0] 124)) := by kernel_rfl

/-- A later world: only what is newer has turned. -/
theorem AccInR.later0 {w w' : World} {B : Nat} {v : Value} {acc : List (List G.El)} (h : AccInR w B v acc) (ho : Only (fun k => w.heap.size ≤ k) w w') : AccInR w' B v acc := by
  obtain ⟨init, last, vi, vl, B1, rfl, h1, h2, h3, h4, h4', h5⟩ := h
  have hn : ∀ {B' : Nat} {e : TypeId} {size n : Nat} {u : Value} {xs : List Value}, w.ownsRow B' e size u n xs → ∀ g, u.ownBlock = some g → ¬ w.heap.size ≤ g := fun hu g hg hs => by
    have := hu.lt g hg
    omega
  exact ⟨init, last, vi, vl, B1, rfl, own_only h1 ho (hn h1), h2, fun i a hi => by
    obtain ⟨u, hu, hr, hg⟩ := h3 i a hi
    exact ⟨u, hu, own_only hr ho (hn hr), hg⟩, h4, Nat.le_trans h4' ho.size, own_only h5 ho (hn h5)⟩

/-- What the last alternative's new slice makes of the whole. -/
theorem acc_moreR {w w1 w2 : World} {B B1 g cap gg cap2 : Nat} {init : List (List G.El)} {last : List G.El} {vi : List Value} {vl : Value} {x : G.El}
    (h1 : w.ownsRow B 124 1 (.slice (some ⟨g, 0, none⟩) (init.length + 1) cap) (init.length + 1) (vi ++ [vl])) (h2 : vi.length = init.length)
    (h3 : ∀ (i : Nat) (a : List G.El), init[i]? = some a → ∃ u, vi[i]? = some u ∧ RowR w B u a ∧ ∀ g, u.ownBlock = some g → g < B1) (h4 : B ≤ B1) (h4' : B1 ≤ w.heap.size) (h5 : RowR w B1 vl last)
    (hb : Below w.heap.size w w1) (hown : w2.ownsRow B1 134 130 (.slice (some ⟨gg, 0, none⟩) (last.length + 1) cap2) (last.length + 1) (flatR last ++ elLR x)) (hg : w1.grownBy w2 vl.ownBlock) :
    AccInR (w2.setCell ⟨g, init.length, none⟩ (.slice (some ⟨gg, 0, none⟩) (last.length + 1) cap2)) B (.slice (some ⟨g, 0, none⟩) (init.length + 1) cap) (init ++ [last ++ [x]]) ∧
      Only (fun k => B ≤ k) w (w2.setCell ⟨g, init.length, none⟩ (.slice (some ⟨gg, 0, none⟩) (last.length + 1) cap2)) := by
  have ne : (134 : Nat) ≠ 124 := by decide
  have hgB : B ≤ g := (h1.lt g rfl).1
  have hvl : ∀ k, vl.ownBlock = some k → B1 ≤ k := fun k hk => (h5.lt k hk).1
  have ho : Only (fun k => vl.ownBlock = some k) w w2 := (Only.of_below (S := fun k => vl.ownBlock = some k) hb fun k h1 h2 => by omega).trans (only_grown hg)
  have hs : Only (fun k => k = g) w2 (w2.setCell ⟨g, init.length, none⟩ (.slice (some ⟨gg, 0, none⟩) (last.length + 1) cap2)) := Only.setCell (S := fun k => k = g) (p := ⟨g, init.length, none⟩) (Only.refl _ _) (.inl rfl) _
  have k1 := own_only h1 ho fun k hk e => own_ne h5 h1 ne k e hk
  have k2 := (k1.stored init.length (.slice (some ⟨gg, 0, none⟩) (last.length + 1) cap2)).1
  have e1 : (vi ++ [vl]).set init.length (.slice (some ⟨gg, 0, none⟩) (last.length + 1) cap2) = vi ++ [.slice (some ⟨gg, 0, none⟩) (last.length + 1) cap2] := by
    rw [← h2, List.set_append_right _ _ (Nat.le_refl _)]
    simp
  rw [e1] at k2
  refine ⟨⟨init, last ++ [x], vi, _, B1, rfl, by simpa using k2, h2, fun i a hi => ?_, h4, Nat.le_trans h4' (Nat.le_trans ho.size hs.size), ?_⟩, ?_⟩
  · obtain ⟨u, hu, hr, hlt⟩ := h3 i a hi
    refine ⟨u, hu, own_only (own_only hr ho fun k hk e => ?_) hs fun k hk e => ?_, hlt⟩
    · have := hlt k hk
      have := hvl k e
      omega
    · subst e
      exact own_ne hr h1 ne k hk rfl
  · have : (last ++ [x]).length = last.length + 1 := by simp
    unfold RowR
    rw [this, flatR_app]
    refine own_only hown hs fun k hk e => ?_
    subst e
    exact own_ne hown k1 ne k hk rfl
  · exact (ho.mono fun k hk => Nat.le_trans h4 (hvl k hk)).trans (hs.mono fun k hk => by rw [hk]; exact hgB)

/-- What the last statement of the loop reads, held while memory is made. -/
def HeldR (w : World) (g j : Nat) (vl : Value) (gx : Nat) (x : G.El) : Prop := w.cell? ⟨g, j, none⟩ = some vl ∧ w.frozen? ⟨g, j, none⟩ = false ∧ full w gx 130 = true ∧ cellsAt w gx 130 = elArrR x
theorem HeldR.mk' {w : World} {g j : Nat} {vl : Value} {gx : Nat} {x : G.El} (h1 : w.cell? ⟨g, j, none⟩ = some vl) (h2 : w.frozen? ⟨g, j, none⟩ = false) (h3 : w.rangeAt gx 0 (elLR x)) : HeldR w g j vl gx x := by
  have := row_of_range h3 (length_elLR x)
  exact ⟨h1, h2, this.1, by rw [this.2, elLR_arr]⟩
theorem HeldR.range {w : World} {g j : Nat} {vl : Value} {gx : Nat} {x : G.El} (h : HeldR w g j vl gx x) : w.rangeAt gx 0 (elLR x) := range_of_row h.2.2.1 (by rw [h.2.2.2, elLR_arr]) (length_elLR x)
theorem HeldR.alloc {w : World} {g j : Nat} {vl : Value} {gx : Nat} {x : G.El} (h : HeldR w g j vl gx x) (o : Obj) : HeldR (w.alloc o) g j vl gx x := by
  have hlt := World.block_lt_of_cell? w _ h.1
  exact HeldR.mk' ((World.cell?_alloc_lt _ _ _ hlt).trans h.1) ((World.frozen?_alloc_past _ _ _ hlt).trans h.2.1) (World.rangeAt_alloc h.range o)
theorem HeldR.grown {w w1 : World} {g j : Nat} {vl : Value} {gx : Nat} {x : G.El} (h : HeldR w g j vl gx x) (hg : w.grownBy w1 vl.ownBlock) (hne : some g ≠ vl.ownBlock) (hx : ∀ q, vl.ownBlock = some q → q < gx) : HeldR w1 g j vl gx x := by
  have hlt := World.block_lt_of_cell? w _ h.1
  refine HeldR.mk' ((hg.cell_far _ hlt hne).trans h.1) ((hg.frozen_far _ hlt hne).trans h.2.1) fun i u hu => ?_
  have := h.range i u hu
  exact (hg.cell_far _ (World.block_lt_of_cell? w _ this) (fun e => by have := hx gx e.symm; omega)).trans this
attribute [local go_sem ↓] load_opR one_opR
attribute [local go_sem] loadRowR_ptr oneRowR_agg full_alloc cellsAt_alloc full_drew cellsAt_drew

def below' (j : Nat) : Nat → Bool := fun i => decide (32 ≤ i) && decide (i < j)
theorem below_start : below' 32 = G.none' := by
  funext i
  simp only [below', G.none']
  rw [Bool.and_eq_false_iff, decide_eq_false_iff_not, decide_eq_false_iff_not]
  omega
theorem below_upd (j : Nat) (h : 32 ≤ j) : upd (below' j) j true = below' (j + 1) := by
  funext i
  simp only [upd, below']
  by_cases e : i = j
  · subst e
    rw [if_pos rfl, decide_eq_true h, decide_eq_true (by omega)]
    rfl
  · rw [if_neg e]
    have : decide (i < j) = decide (i < j + 1) := by rw [Bool.eq_iff_iff]; simp; omega
    rw [this]
theorem below_end : below' 127 = G.pr := by
  funext i
  simp only [below', G.pr]
  have : decide (i < 127) = decide (i ≤ 126) := by rw [Bool.eq_iff_iff]; simp; omega
  rw [this]

/-- What Parse of the reference answers, and what it leaves. -/
def RParsePost (p : ByteArray) (w : World) (e : Ending) (w' : World) : Prop :=
  ∃ v ok, e = .returned (.tuple #[v, .bool ok]) ∧ Below w.heap.size w w' ∧ (ok = false → G.alts (bs p) = none) ∧
    (ok = true → ∃ l, G.alts (bs p) = some l ∧ AltsR w' w.heap.size v l ∧ l.length ≤ 257 ∧ ∀ a, a ∈ l → a.length ≤ 256)

/-- What holds at the head of its loop. -/
def RAt (p : ByteArray) (w : World) (l : Value) (wr : World) (k : Nat) (acc : List (List G.El)) : Prop :=
  k ≤ p.size ∧ acc.length ≤ k + 1 ∧ (∀ a, a ∈ acc → a.length ≤ k) ∧ AccInR wr w.heap.size l acc ∧ Only (fun _ => False) w wr ∧ G.go .out [[]] (bs p) = G.go .out acc ((bs p).drop k)
theorem RAt.start (p : ByteArray) (w : World) : RAt p w (.slice (some ⟨w.heap.size, 0, none⟩) 1 1) (w.alloc (.cells #[.slice none 0 0] 124)) 0 [[]] := by
  refine ⟨by omega, by simp, fun a ha => by simp at ha; subst ha; simp, ?_, (Only.refl _ _).alloc _, by simp⟩
  exact ⟨[], [], [], .slice none 0 0, (w.alloc (.cells #[.slice none 0 0] 124)).heap.size, rfl, World.ownsRow_lit w #[.slice none 0 0] 1 (Nat.le_refl _) (by simp [maxLen]) rfl, rfl, fun i a h => by simp at h, by simp, Nat.le_refl _, World.ownsRow_nil _ _ _ _⟩

set_option maxHeartbeats 400000 in
theorem rparse_bad (p : ByteArray) (w : World) (hp : p.size ≤ 256) (h : (bs p).all G.pr = false) : Calls Tryz.prog 87 #[.string p] w (RParsePost p w) := by
  have hP := printable_any p w (by omega)
  rw [h] at hP
  have ha := alts_bad h
  have hP' := Lib.hid hP; clear hP h
  have ha' := Lib.hid ha; clear ha
  go_enter Tryz.func87, Tryz.ntmps87
  go_wp2_with fail
  refine hP'.out.mono ?_
  rintro e w' ⟨rfl, rfl⟩
  go_wp2_with fail
  go_ret2
  exact ⟨.slice none 0 0, false, rfl, Below.refl _ _, fun _ => ha'.out, fun e => (by cases e)⟩

set_option maxRecDepth 100000 in
set_option maxHeartbeats 4000000 in
theorem rparse_ok (p : ByteArray) (w : World) (hp : p.size ≤ 256) (h : (bs p).all G.pr = true) : Calls Tryz.prog 87 #[.string p] w (RParsePost p w) := by
  have hP := printable_any p w (by omega)
  rw [h] at hP
  have hgo := alts_go (l := bs p) (by rw [length_bs]; omega) h
  have hall : ∀ x, x ∈ bs p → G.pr x = true := List.all_eq_true.1 h
  have hst := RAt.start p w
  have hP' := Lib.hid hP; clear hP h
  have hgo' := Lib.hid hgo; clear hgo
  have hall' := Lib.hid hall; clear hall
  have hst' := Lib.hid hst; clear hst
  have rn := run_nilR
  obtain ⟨i0, hi0, hz0, hz1, hz2⟩ := info_parts info_slR
  go_enter Tryz.func87, Tryz.ntmps87
  go_wp2_with fail
  refine hP'.out.mono ?_
  rintro e w' ⟨rfl, rfl⟩
  go_wp2_with fail
  go_loopw [4, 5] (fun l s5 wr => ∃ k acc, s5 = .int .i64 (k : Nat) ∧ RAt p w l wr k acc) (fun _ s5 _ => p.size - (intOf s5).toNat)
  case atStart => exact ⟨0, [[]], rfl, hst'.out⟩
  case round =>
    clear hst' hP'
    obtain ⟨k, acc, rfl, hk, hn1, hn2, ha, ho, hgo2⟩ := hrel
    obtain ⟨l4, rfl⟩ : ∃ y : Value, y = u4 := ⟨_, rfl⟩
    obtain ⟨w0, rfl⟩ : ∃ y : World, y = wr := ⟨_, rfl⟩
    by_cases hkl : k < p.size
    · have hpk := get_bs p k hkl
      have hc126 : (p[k]'hkl).toNat < 127 := by
        have := hall'.out _ (List.mem_of_getElem? hpk)
        simp only [G.pr, Bool.and_eq_true, decide_eq_true_eq] at this
        omega
      have hds := G.drop_of_get hpk
      have hx0 : Blk (w0.alloc (.cells Tryz.zeroCells134 134)) w0.heap.size 134 (elR false false G.none') := by rw [← zero_elR]; exact Blk.new _ _ _
      have ho1 : Only (fun k => w0.heap.size ≤ k) w0 (w0.alloc (.cells Tryz.zeroCells134 134)) := (Only.refl _ _).alloc _
      have hn2' := Lib.hid hn2; clear hn2
      have ha' := Lib.hid ha; clear ha
      have ho' := Lib.hid ho; clear ho
      have hgo2' := Lib.hid hgo2; clear hgo2
      have hgo2'' := hgo2'
      have hx' := Lib.hid hx0; clear hx0
      have ho1' := Lib.hid ho1; clear ho1
      have hds' := Lib.hid hds; clear hds
      have hhs := ho'.out.size
      go_upto_region 8 with fail
      generalize hwb : w0.alloc (.cells Tryz.zeroCells134 134) = wb at *
      have hwz : w0.heap.size < wb.heap.size := by rw [← hwb]; simp
      clear hwb
      go_upto_block 2 with fail
      generalize hc : (p[k]'hkl).toNat = c at *
      have hc' := Lib.hid hc; clear hc
      have hpk' := Lib.hid hpk; clear hpk
      go_cut [4, 5] (fun s4 s5 wx => s4 = l4 ∧ ∃ x k2, s5 = .int .i64 (k2 : Nat) ∧ k ≤ k2 ∧ k2 < p.size ∧ Blk wx w0.heap.size 134 (elArrR x) ∧ Only (fun k => w0.heap.size ≤ k) w0 wx ∧ G.go .out acc ((bs p).drop k) = G.go .out (G.app acc x) ((bs p).drop (k2 + 1)))
      case first =>
        have hgx1 := hx'.out.lt
        by_cases e1 : c = 124
        · subst e1
          have hdr2 : G.go .out acc ((bs p).drop k) = G.go .out (acc ++ [[]]) ((bs p).drop (k + 1)) := by rw [hds'.out, G.go_bar]
          have hdr2' := Lib.hid hdr2; clear hdr2 hds'
          have haa := ha'.out.later0 ho1'.out
          obtain ⟨vs, hvs⟩ := haa.outer
          have hvlt := fun g hg => (hvs.lt g hg).1
          have haa' := Lib.hid haa; clear haa
          have hvs' := Lib.hid hvs; clear hvs
          have hvlt' := Lib.hid hvlt; clear hvlt
          go_wp2_with (at_builtin; refine wpList_append_own _ rfl (.tmp 32) (.tmp 33) 120 rfl w.heap.size 124 i0 (.slice none 0 0) 1 24 Tryz.underlying120 hi0 hz0 hz1 hz2 rfl (by decide) l4 acc.length vs rfl (hvs'.out.alloc _) ⟨wb.heap.size, 0, none⟩ 1 1 [.slice none 0 0] rfl rfl (cell_one_new _ _ _) (by intro u hu; simp at hu; subst hu; rfl) (by simp only [maxLen]; omega) (by omega) (by simp; omega) ?_; intro v' w1 hown' hgrow _)
          go_roundw
          case rel =>
            refine ⟨k + 1, acc ++ [[]], by go_num, by omega, by simp; omega, fun a ha => ?_, (haa'.out.later0 ((Only.refl _ _).alloc (.cells #[.slice none 0 0] 124))).bar (hvs'.out.alloc _) hown' hgrow, ?_, ?_⟩
            · rw [List.mem_append] at ha
              rcases ha with ha | ha
              · have := hn2'.out a ha; omega
              · simp at ha; subst ha; simp
            · exact ((ho'.out.step ho1'.out fun i hi => .inr (by omega)).alloc (.cells #[.slice none 0 0] 124)).step (only_grown hgrow) fun i hi => .inr (hvlt'.out i hi)
            · rw [hgo2'.out]; exact hdr2'.out
          case measure => simp [intOf]; omega
        have b1 : ((c : Int) == 124) = false := by rw [beq_eq_false_iff_ne]; omega
        by_cases e2 : c = 42
        · subst e2
          have hdr2 : G.go .out acc ((bs p).drop k) = G.go .out (G.app acc G.starEl) ((bs p).drop (k + 1)) := by rw [hds'.out, G.go_star]
          have hB : Blk (wb.setCell ⟨w0.heap.size, 0, none⟩ (.bool true)) w0.heap.size 134 (elArrR G.starEl) := by
            have h := hx'.out.store 0 (.bool true)
            rw [elR_setStar] at h
            exact h
          have hO := ho1'.out.setCell (p := ⟨w0.heap.size, 0, none⟩) (.inl (Nat.le_refl _)) (.bool true)
          have c0 := (hx'.out.cell 0).trans (elR_star _ _ _)
          have f0 := hx'.out.frozen 0
          have hdr2' := Lib.hid hdr2; clear hdr2 hds'
          have hB' := Lib.hid hB; clear hB
          have hO' := Lib.hid hO; clear hO
          go_wp2_with fail
          go_meet
          case rel => exact ⟨rfl, G.starEl, k, rfl, Nat.le_refl _, hkl, hB'.out, hO'.out, hdr2'.out⟩
        by_cases e3 : c = 63
        · subst e3
          have hdr2 : G.go .out acc ((bs p).drop k) = G.go .out (G.app acc G.anyEl) ((bs p).drop (k + 1)) := by rw [hds'.out, G.go_any]
          have hdr2' := Lib.hid hdr2; clear hdr2 hds' e2
          have hB0 : Blk wb w0.heap.size 134 (elR false false (below' 32)) := by rw [below_start]; exact hx'.out
          have hB0' := Lib.hid hB0; clear hB0 hx'
          go_wp2_with fail
          go_loopw [7] (fun s7 wx => ∃ j : Nat, s7 = .int .i64 j ∧ 32 ≤ j ∧ j ≤ 127 ∧ Blk wx w0.heap.size 134 (elR false false (below' j)) ∧ Only (fun k => w0.heap.size ≤ k) w0 wx) (fun s7 _ => 127 - (intOf s7).toNat)
          case atStart => exact ⟨32, rfl, by omega, by omega, hB0'.out, ho1'.out⟩
          case round =>
            clear hB0' ho1'
            obtain ⟨j, rfl, hj, hj', q1, q2⟩ := hrel
            have hlt2 := q1.lt
            by_cases hj2 : j ≤ 126
            · have jj : (j : Int) ≤ 126 := by omega
              have j0 : (0 : Int) ≤ (j : Int) := by omega
              have c0 := (q1.cell (2 + j)).trans (elR_set _ _ _ j (by omega))
              have f0 := q1.frozen (2 + j)
              have hB := q1.store (2 + j) (.bool true)
              rw [elR_upd, below_upd j hj] at hB
              have hO := q2.setCell (p := ⟨w0.heap.size, 2 + j, none⟩) (.inl (Nat.le_refl _)) (.bool true)
              have hB' := Lib.hid hB; clear hB q1
              have hO' := Lib.hid hO; clear hO q2
              go_wp2_with fail
              go_roundw
              case rel => exact ⟨j + 1, by go_num, by omega, by omega, hB'.out, hO'.out⟩
              case measure => simp [intOf]; omega
            · obtain rfl : j = 127 := by omega
              rw [below_end] at q1
              have q1' := Lib.hid q1; clear q1
              have q2' := Lib.hid q2; clear q2
              go_wp2_with fail
              go_meet
              case rel => exact ⟨rfl, G.anyEl, k, rfl, Nat.le_refl _, hkl, q1'.out, q2'.out, hdr2'.out⟩
        by_cases e4 : c = 91
        · subst e4
          have hdr2 : ∀ acc2, G.go .out acc2 ((bs p).drop k) = opened acc2 ((bs p).drop (k + 1)) := fun acc2 => by rw [hds'.out, go_opened]
          have hset := rset_any p (k + 1) w0.heap.size wb hx'.out (by omega) (by omega) hall'.out
          have hdr2' := Lib.hid hdr2; clear hdr2 hds'
          have hset' := Lib.hid hset; clear hset
          go_wp2_with fail
          refine hset'.out.mono ?_
          clear hset'
          rintro e w4 ⟨ok, a2, rfl, ho2, hno, hyes⟩
          have hz4 := ho2.size
          have hO : Only (fun k => w0.heap.size ≤ k) w0 w4 := ho1'.out.step ho2 fun i hi => .inl (by omega)
          have hO' := Lib.hid hO; clear hO ho2
          have hno' := Lib.hid hno; clear hno
          have hyes' := Lib.hid hyes; clear hyes
          cases ok with
          | false =>
            have hout : G.alts (bs p) = none := by rw [hgo'.out, hgo2'.out, hdr2'.out]; exact hno'.out rfl acc
            have hb : Below w.heap.size w w4 := (ho'.out.step hO'.out fun i hi => .inr (by omega)).below (fun _ h => h.elim) (Nat.le_refl _)
            have hout' := Lib.hid hout; clear hout
            have hb' := Lib.hid hb; clear hb
            go_wp2_with fail
            go_ret2
            exact ⟨.slice none 0 0, false, rfl, hb'.out, fun _ => hout'.out, fun e => (by cases e)⟩
          | true =>
            obtain ⟨s, hs1, hs2, hs3, hs4⟩ := hyes'.out rfl
            have hs3' := Lib.hid hs3; clear hs3
            have hs4' := Lib.hid hs4; clear hs4
            go_wp2_with fail
            go_meet
            case rel => exact ⟨rfl, G.setEl s, a2, rfl, by omega, hs2, hs4'.out, hO'.out, by rw [hdr2'.out]; exact hs3'.out.1 rfl acc⟩
        have b4 : ((c : Int) == 91) = false := by rw [beq_eq_false_iff_ne]; omega
        have b2 : ((c : Int) == 42) = false := by rw [beq_eq_false_iff_ne]; omega
        have b3 : ((c : Int) == 63) = false := by rw [beq_eq_false_iff_ne]; omega
        have hdr2 : G.go .out acc ((bs p).drop k) = G.go .out (G.app acc (G.litEl c)) ((bs p).drop (k + 1)) := by rw [hds'.out, G.go_lit _ _ _ e1 e2 e3 e4]
        have hdr2' := Lib.hid hdr2; clear hdr2 hds'
        have x1 : (k : Int) < (p.size : Int) := by omega
        have c0 := (hx'.out.cell 1).trans (elR_lit _ _ _)
        have f0 := hx'.out.frozen 1
        have c1 := (hx'.out.cell (2 + c)).trans (elR_set _ _ _ c (by omega))
        have hcc := hc'.out
        have c2 : (c : Int) < 128 := by omega
        have f1 := hx'.out.frozen (2 + c)
        have hB : Blk (((wb.setCell ⟨w0.heap.size, 1, none⟩ (.bool true)).setCell ⟨w0.heap.size, 2 + c, none⟩ (.bool true)).drew) w0.heap.size 134 (elArrR (G.litEl c)) := by
          have h := hx'.out.store 1 (.bool true)
          rw [elR_setLit] at h
          have h2 := h.store (2 + c) (.bool true)
          rw [elR_upd] at h2
          have e : elArrR (G.litEl c) = elR false true (upd G.none' c true) := by
            unfold elArrR
            have hc0 : c ≠ 0 := by
              have := hall'.out c (List.mem_of_getElem? hpk'.out)
              simp only [G.pr, Bool.and_eq_true, decide_eq_true_eq] at this
              omega
            simp only [G.litEl, hc0, ne_eq, not_false_eq_true, decide_true, Bool.false_eq_true, if_false]
            refine congrArg (elR false true) ?_
            funext i
            simp only [upd, G.none']
            by_cases h : i = c
            · simp [h]
            · simp [h]
          rw [e]
          exact h2.drew
        have hO := ((ho1'.out.setCell (p := ⟨w0.heap.size, 1, none⟩) (.inl (Nat.le_refl _)) (.bool true)).setCell (p := ⟨w0.heap.size, 2 + c, none⟩) (.inl (Nat.le_refl _)) (.bool true)).drew
        have hB' := Lib.hid hB; clear hB
        have hO' := Lib.hid hO; clear hO
        go_wp2_with fail
        go_region_with (fail)
        all_goals go_wp2_with fail
        all_goals go_meet
        all_goals exact ⟨rfl, G.litEl c, k, rfl, Nat.le_refl _, hkl, hB'.out, hO'.out, hdr2'.out⟩
      case rest =>
        obtain ⟨rfl, x, k2, rfl, hk2, hk2', hx2, ho2, hgo2⟩ := hcut
        clear hx' ho1' hds' hpk'
        obtain ⟨init, last, vi, vl, B1, hacc, g1, h2, g3, h4, g4, g5⟩ := ha'.out
        clear ha'
        subst hacc
        have hnn : ∀ {B' : Nat} {e : TypeId} {size n : Nat} {u : Value} {xs : List Value}, w0.ownsRow B' e size u n xs → ∀ g, u.ownBlock = some g → ¬ (w0.heap.size ≤ g) := fun hu g hg hs => by
          have := hu.lt g hg
          omega
        have hvx : ∀ q, vl.ownBlock = some q → q < w0.heap.size := fun q hq => (g5.lt q hq).2
        have h1 := own_only g1 ho2 (hnn g1)
        have h5 : RowR wc B1 vl last := own_only g5 ho2 (hnn g5)
        have h3 : ∀ (i : Nat) (a : List G.El), init[i]? = some a → ∃ u, vi[i]? = some u ∧ RowR wc w.heap.size u a ∧ ∀ g, u.ownBlock = some g → g < B1 := fun i a hi => by
          obtain ⟨u, hu, hr, hg⟩ := g3 i a hi
          exact ⟨u, hu, own_only hr ho2 (hnn hr), hg⟩
        have h4' : B1 ≤ wc.heap.size := Nat.le_trans g4 ho2.size
        clear g1 g3 g4 g5 hnn
        have hlen : (init ++ [last]).length = init.length + 1 := by simp
        rw [hlen] at h1
        obtain ⟨g, cap, hu4, hgB, hglt⟩ := h1.form (by omega)
        subst hu4
        have hcl : wc.cell? ⟨g, init.length, none⟩ = some vl := by
          rw [h1.cellAt init.length (by omega), ← h2, List.getElem?_append_right (Nat.le_refl _)]
          simp
        have hfr := h1.frozenAt init.length
        have hrx : wc.rangeAt w0.heap.size 0 (elLR x) := hx2.range 0 _ fun j v hv => by simpa [elLR] using hv
        have hvg : some g ≠ vl.ownBlock := fun e => own_ne h5 h1 (by decide) g e.symm rfl
        have hgx1 := hx2.lt
        have hin : init.length + 1 ≤ 257 := by rw [← hlen]; omega
        have hln : last.length ≤ 256 := by have := hn2'.out last (by simp); omega
        have hze := size_elArrR x
        obtain ⟨j0, hj0, hj1, hj2, hj3⟩ := info_parts info_elR
        have h1' := Lib.hid h1; clear h1
        have h2' := Lib.hid h2; clear h2
        have h3' := Lib.hid h3; clear h3
        have h5' := Lib.hid h5; clear h5
        have hx' := Lib.hid hx2; clear hx2
        have ho2' := Lib.hid ho2; clear ho2
        have hgo2' := Lib.hid hgo2; clear hgo2
        have hlen' := Lib.hid hlen; clear hlen
        have hwr : IntKind.i64.wrap (init.length : Int) = (init.length : Int) := IntWalk.i64_in _ (by omega)
        have hi1 : (0 : Int) ≤ (init.length : Int) := by omega
        have hi2 : (init.length : Int) < (init.length : Int) + 1 := by omega
        obtain ⟨wx, rfl⟩ : ∃ y : World, y = wc := ⟨_, rfl⟩
        go_wp2_with fail
        have hH := HeldR.mk' hcl hfr hrx
        have hH' := Lib.hid hH; clear hH hcl hfr hrx
        have hF1 := hH'.out.2.2.1
        have hF2 := hH'.out.2.2.2
        have hcl := hH'.out.1
        have hfr := hH'.out.2.1
        have own1 : (wx.alloc (.cells (elArrR x) 134)).drew.ownsRow B1 134 130 vl last.length (flatR last) := (h5'.out.alloc _).drew
        have news1 : ∀ j u, (elLR x)[j]? = some u → (wx.alloc (.cells (elArrR x) 134)).drew.cell? ((⟨wx.heap.size, 0, none⟩ : Addr).add j) = some u := World.news_of_block (w := wx.alloc (.cells (elArrR x) 134)) (cs := elArrR x) (t := 134) (fr := (0, 0)) (heap_alloc_new _ _)
        have len1 : (elLR x).length = 1 * 130 := by rw [length_elLR]
        have max1 : last.length + 1 ≤ maxLen := by simp only [maxLen]; omega
        have base1 : B1 ≤ (wx.alloc (.cells (elArrR x) 134)).drew.heap.size := by simp; omega
        have size1 : (wx.alloc (.cells (elArrR x) 134)).drew.heap.size = wx.heap.size + 1 := by simp
        have grow1 : ∀ w1 : World, (wx.alloc (.cells (elArrR x) 134)).drew.grownBy w1 vl.ownBlock → HeldR w1 g init.length vl w0.heap.size x := fun w1 hg1 => HeldR.grown (w := (wx.alloc (.cells (elArrR x) 134)).drew) (HeldR.alloc (w := wx) hH'.out _) hg1 hvg hvx
        have own1' := Lib.hid own1; clear own1
        have news1' := Lib.hid news1; clear news1
        have len1' := Lib.hid len1; clear len1
        have size1' := Lib.hid size1; clear size1
        have grow1' := Lib.hid grow1; clear grow1
        go_region_law (refine step_append_lies ((wx.alloc (.cells (elArrR x) 134)).drew) (by rfl) (.tmp 67) (.tmp 69) 124 (by rfl) B1 134 j0 (.agg (elArrR ⟨0, false, G.none'⟩)) 130 130 Tryz.underlying124 hj0 hj1 hj2 hj3 (size_elArrR _) (Nat.zero_lt_succ _) vl last.length (flatR last) (by simp [Act.eval]) own1'.out ⟨wx.heap.size, 0, none⟩ 1 1 (elLR x) (by simp [Act.eval]) len1'.out news1'.out (one_elLR x) (Nat.zero_lt_succ _) max1 (by omega) base1 (wx.heap.size + 1) size1'.out ?_; intro gg cap2 w1 hown1 hgrow hat hlt1; have q0 := grow1'.out w1 hgrow; have q1 := q0.1; have q2 := q0.2.1; clear q0)
        all_goals clear hF1 hF2 hcl hfr q1 q2
        all_goals
          have hb1 : Below wx.heap.size wx (wx.alloc (.cells (elArrR x) 134)).drew := ((Below.refl _ _).alloc (Nat.le_refl _) _).drew
          have hfin := acc_moreR h1'.out h2'.out h3'.out h4 h4' h5'.out hb1 hown1 hgrow
          obtain ⟨hacc, honly⟩ := hfin
          have hacc' := Lib.hid hacc; clear hacc
          have honly' := Lib.hid honly; clear honly
          go_wp2_with fail
          go_roundw
          case rel =>
            refine ⟨k2 + 1, G.app (init ++ [last]) x, by go_num, by omega, ?_, fun a ha => ?_, ?_, ?_, ?_⟩
            · rw [app_init]; simp; rw [hlen'.out] at hn1; omega
            · rw [app_init, List.mem_append] at ha
              rcases ha with ha | ha
              · have := hn2'.out a (List.mem_append_left _ ha); omega
              · simp only [List.mem_singleton] at ha
                subst ha
                have := hn2'.out last (by simp)
                simp; omega
            · rw [app_init]; exact hacc'.out
            · exact ((ho'.out.step ho2'.out fun i hi => .inr (by omega)).step honly'.out fun i hi => .inr (by omega))
            · rw [hgo2''.out]; exact hgo2'.out
          case measure => simp [intOf]; omega
    · obtain rfl : k = p.size := by omega
      have hfin : G.alts (bs p) = some acc := by
        rw [hgo'.out, hgo2, List.drop_eq_nil_of_le (by rw [length_bs]; exact Nat.le_refl _)]
        simp [G.go]
      have hal := ha.alts
      have hb : Below w.heap.size w w0 := ho.below (fun _ h => h.elim) (Nat.le_refl _)
      have hn2' : ∀ a, a ∈ acc → a.length ≤ 256 := fun a h => by have := hn2 a h; omega
      have hfin' := Lib.hid hfin; clear hfin hgo2 ha
      have hal' := Lib.hid hal; clear hal ho
      have hb' := Lib.hid hb; clear hb hn2
      have hn2'' := Lib.hid hn2'; clear hn2'
      go_wp2_with fail
      go_ret2
      exact ⟨l4, true, rfl, hb'.out, fun e => (by cases e), fun _ => ⟨acc, hfin'.out, hal'.out, by omega, hn2''.out⟩⟩

/-- coldplugref02.Parse. -/
theorem rparse_any (p : ByteArray) (w : World) (hp : p.size ≤ 256) : Calls Tryz.prog 87 #[.string p] w (RParsePost p w) := by
  cases h : (bs p).all G.pr with
  | true => exact rparse_ok p w hp h
  | false => exact rparse_bad p w hp h

end Go.Proofs.YtinjeijjfkkhbaaGreatDoor
