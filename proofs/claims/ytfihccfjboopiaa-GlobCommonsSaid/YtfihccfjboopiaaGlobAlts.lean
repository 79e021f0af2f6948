/-
  THE WALK of glob's (*reader).alternatives: the alternatives of a pattern, or none.
-/
import Derived.Test.YtfihccfjboopiaaGlobSet
import Derived.Test.YtfihccfjboopiaaGlobRows
import Derived.Deep.AppendLies
import Derived.Deep.RegionLaw
import Derived.Great.BuildSlice
namespace Go.Proofs.Ytfihccfjboopiaa
open Go.RowKit

theorem info_sl : (Try.prog.info? 67).map (fun i => (i.zero, i.size, i.bytes)) = some (some (.slice none 0 0), 1, 24) := by kernel_rfl

/-- What the last alternative's new slice makes of the whole. -/
theorem acc_more {w w1 w2 : World} {B B1 g cap gg cap2 : Nat} {init : List (List G.El)} {last : List G.El} {vi : List Value} {vl : Value} {x : G.El}
    (h1 : w.ownsRow B 67 1 (.slice (some ⟨g, 0, none⟩) (init.length + 1) cap) (init.length + 1) (vi ++ [vl])) (h2 : vi.length = init.length)
    (h3 : ∀ (i : Nat) (a : List G.El), init[i]? = some a → ∃ u, vi[i]? = some u ∧ Row w B u a ∧ ∀ g, u.ownBlock = some g → g < B1) (h4 : B ≤ B1) (h4' : B1 ≤ w.heap.size) (h5 : Row w B1 vl last)
    (hb : Below w.heap.size w w1) (hown : w2.ownsRow B1 118 129 (.slice (some ⟨gg, 0, none⟩) (last.length + 1) cap2) (last.length + 1) (flat last ++ elL x)) (hg : w1.grownBy w2 vl.ownBlock) :
    AccIn (w2.setCell ⟨g, init.length, none⟩ (.slice (some ⟨gg, 0, none⟩) (last.length + 1) cap2)) B (.slice (some ⟨g, 0, none⟩) (init.length + 1) cap) (init ++ [last ++ [x]]) ∧
      Only (fun k => B ≤ k) w (w2.setCell ⟨g, init.length, none⟩ (.slice (some ⟨gg, 0, none⟩) (last.length + 1) cap2)) := by
  have ne : (118 : Nat) ≠ 67 := by decide
  have hgB : B ≤ g := (h1.lt g rfl).1
  have hvl : ∀ k, vl.ownBlock = some k → B1 ≤ k := fun k hk => (h5.lt k hk).1
  have ho : Only (fun k => vl.ownBlock = some k) w w2 := (Only.of_below (S := fun k => vl.ownBlock = some k) hb fun k h1 h2 => by omega).trans (only_grown hg)
  have hs : Only (fun k => k = g) w2 (w2.setCell ⟨g, init.length, none⟩ (.slice (some ⟨gg, 0, none⟩) (last.length + 1) cap2)) := Only.setCell (S := fun k => k = g) (p := ⟨g, init.length, none⟩) (Only.refl _ _) (.inl rfl) _
  have k1 := own_only h1 ho fun k hk e => own_ne h5 h1 ne k e hk
  have k2 := (k1.stored init.length (.slice (some ⟨gg, 0, none⟩) (last.length + 1) cap2)).1
  have e1 : (vi ++ [vl]).set init.length (.slice (some ⟨gg, 0, none⟩) (last.length + 1) cap2) = vi ++ [.slice (some ⟨gg, 0, none⟩) (last.length + 1) cap2] := by
    rw [← h2, List.set_append_right _ _ (Nat.le_refl _)]
    simp
  rw [e1] at k2
  refine ⟨⟨init, last ++ [x], vi, _, B1, rfl, by simpa using k2, h2, fun i a hi => ?_, h4, Nat.le_trans h4' (Nat.le_trans ho.size hs.size), ?_⟩, ?_⟩
  · obtain ⟨u, hu, hr, hlt⟩ := h3 i a hi
    refine ⟨u, hu, own_only (own_only hr ho fun k hk e => ?_) hs fun k hk e => ?_, hlt⟩
    · have := hlt k hk
      have := hvl k e
      omega
    · subst e
      exact own_ne hr h1 ne k hk rfl
  · have : (last ++ [x]).length = last.length + 1 := by simp
    unfold Row
    rw [this, flat_app]
    refine own_only hown hs fun k hk e => ?_
    subst e
    exact own_ne hown k1 ne k hk rfl
  · exact (ho.mono fun k hk => Nat.le_trans h4 (hvl k hk)).trans (hs.mono fun k hk => by rw [hk]; exact hgB)

theorem run_nil (W : World) : (Instr.buildSlice 64 1 #[(0, .slice none 0 0)]).run Try.prog W = .ok (.slice (some ⟨W.heap.size, 0, none⟩) 1 1) (W.alloc (.cells #[.slice none 0 0] 67)) := by kernel_rfl

theorem zero_el : Try.zeroCells118 = elArr ⟨0, false, G.none'⟩ := by kernel_rfl

/-- What the last statement of the loop reads, held while memory is made. -/
def Held (w : World) (g j : Nat) (vl : Value) (gx : Nat) (x : G.El) : Prop := w.cell? ⟨g, j, none⟩ = some vl ∧ w.frozen? ⟨g, j, none⟩ = false ∧ full w gx 129 = true ∧ cellsAt w gx 129 = elArr x
theorem Held.mk' {w : World} {g j : Nat} {vl : Value} {gx : Nat} {x : G.El} (h1 : w.cell? ⟨g, j, none⟩ = some vl) (h2 : w.frozen? ⟨g, j, none⟩ = false) (h3 : w.rangeAt gx 0 (elL x)) : Held w g j vl gx x := by
  have := row_of_range h3 (length_elL x)
  exact ⟨h1, h2, this.1, by rw [this.2, elL_arr]⟩
theorem Held.range {w : World} {g j : Nat} {vl : Value} {gx : Nat} {x : G.El} (h : Held w g j vl gx x) : w.rangeAt gx 0 (elL x) := range_of_row h.2.2.1 (by rw [h.2.2.2, elL_arr]) (length_elL x)
theorem Held.alloc {w : World} {g j : Nat} {vl : Value} {gx : Nat} {x : G.El} (h : Held w g j vl gx x) (o : Obj) : Held (w.alloc o) g j vl gx x := by
  have hlt := World.block_lt_of_cell? w _ h.1
  exact Held.mk' ((World.cell?_alloc_lt _ _ _ hlt).trans h.1) ((World.frozen?_alloc_past _ _ _ hlt).trans h.2.1) (World.rangeAt_alloc h.range o)
theorem Held.grown {w w1 : World} {g j : Nat} {vl : Value} {gx : Nat} {x : G.El} (h : Held w g j vl gx x) (hg : w.grownBy w1 vl.ownBlock) (hne : some g ≠ vl.ownBlock) (hx : ∀ q, vl.ownBlock = some q → q < gx) : Held w1 g j vl gx x := by
  have hlt := World.block_lt_of_cell? w _ h.1
  refine Held.mk' ((hg.cell_far _ hlt hne).trans h.1) ((hg.frozen_far _ hlt hne).trans h.2.1) fun i u hu => ?_
  have := h.range i u hu
  exact (hg.cell_far _ (World.block_lt_of_cell? w _ this) (fun e => by have := hx gx e.symm; omega)).trans this
attribute [local go_sem ↓] load_op one_op
attribute [local go_sem] loadRow_ptr oneRow_agg full_alloc cellsAt_alloc full_drew cellsAt_drew

/-- What 'alternatives' answers, and what it leaves. -/
def AltsPost (p : ByteArray) (rb : Nat) (w : World) (e : Ending) (w' : World) : Prop :=
  ∃ v ok, e = .returned (.tuple #[v, .bool ok]) ∧ Only (fun k => k = rb) w w' ∧ (ok = false → G.go .out [[]] (bs p) = none) ∧
    (ok = true → ∃ l, G.go .out [[]] (bs p) = some l ∧ Alts w' w.heap.size v l ∧ l.length ≤ 257 ∧ ∀ a, a ∈ l → a.length ≤ 256)

/-- What holds at the head of the loop of 'alternatives'. -/
def AltsAt (p : ByteArray) (rb : Nat) (w : World) (l : Value) (wr : World) (k : Nat) (acc : List (List G.El)) : Prop :=
  k ≤ p.size ∧ acc.length ≤ k + 1 ∧ (∀ a, a ∈ acc → a.length ≤ k) ∧ Blk wr rb 112 #[.string p, .int .i64 k] ∧ AccIn wr w.heap.size l acc ∧ Only (fun k => k = rb) w wr ∧ G.go .out [[]] (bs p) = G.go .out acc ((bs p).drop k)

theorem AltsAt.start (p : ByteArray) (rb : Nat) (w : World) (hr : Blk w rb 112 #[.string p, .int .i64 0]) :
    AltsAt p rb w (.slice (some ⟨w.heap.size, 0, none⟩) 1 1) (w.alloc (.cells #[.slice none 0 0] 67)) 0 [[]] := by
  refine ⟨by omega, by simp, fun a ha => by simp at ha; subst ha; simp, hr.alloc _, ?_, (Only.refl _ _).alloc _, by simp⟩
  exact ⟨[], [], [], .slice none 0 0, (w.alloc (.cells #[.slice none 0 0] 67)).heap.size, rfl, World.ownsRow_lit w #[.slice none 0 0] 1 (Nat.le_refl _) (by simp [maxLen]) rfl, rfl, fun i a h => by simp at h, by simp, Nat.le_refl _, World.ownsRow_nil _ _ _ _⟩

set_option maxRecDepth 100000 in
set_option maxHeartbeats 4000000 in
theorem alternatives_any (p : ByteArray) (rb : Nat) (w : World) (hr : Blk w rb 112 #[.string p, .int .i64 0]) (hp : p.size ≤ 256) (hall : ∀ x, x ∈ bs p → G.pr x = true) :
    Calls Try.prog 64 #[.pointer (some ⟨rb, 0, none⟩)] w (AltsPost p rb w) := by
  have hlt := hr.lt
  have hst := AltsAt.start p rb w hr
  have hst' := Lib.hid hst; clear hst hr
  have hall' := Lib.hid hall; clear hall
  have rn := run_nil
  obtain ⟨i0, hi0, hz0, hz1, hz2⟩ := info_parts info_sl
  go_enter Try.func64, Try.ntmps64
  go_wp2_with fail
  go_loopw [4] (fun l wr => ∃ k acc, AltsAt p rb w l wr k acc) (fun _ wr => p.size - placeOf wr rb)
  case atStart => exact ⟨0, [[]], hst'.out⟩
  case round =>
    clear hst'
    obtain ⟨k, acc, hk, hn1, hn2, hr, ha, ho, hgo⟩ := hrel
    obtain ⟨l4, rfl⟩ : ∃ y : Value, y = u4 := ⟨_, rfl⟩
    have c0 : wr.cell? ⟨rb, 0, none⟩ = some (.string p) := (hr.cell 0).trans rfl
    have c1 : wr.cell? ⟨rb, 1, none⟩ = some (.int .i64 k) := (hr.cell 1).trans rfl
    have f1 := hr.frozen 1
    have hpl := placeOf_blk hr
    have hpl' := Lib.hid hpl; clear hpl
    have hn2' := Lib.hid hn2; clear hn2
    have hr' := Lib.hid hr; clear hr
    have ha' := Lib.hid ha; clear ha
    have ho' := Lib.hid ho; clear ho
    have hgo' := Lib.hid hgo; clear hgo
    by_cases hkl : k < p.size
    · go_wp2_with fail
      go_quiet (fail)
      go_wp2_with fail
      go_quiet (fail)
      have hpk := get_bs p k hkl
      generalize hc : (p[k]'hkl).toNat = c at *
      clear hc
      have hpk' := Lib.hid hpk; clear hpk
      go_upto_region 4 with fail
      go_cut [] (fun wx => Blk wx rb 112 #[.string p, .int .i64 (k + 1 : Nat)] ∧ AccIn wx w.heap.size l4 acc ∧ Only (fun k => k = rb) w wx)
      case first =>
        go_wp2_with fail
        go_meet
        case rel =>
          refine ⟨?_, ?_, ?_⟩
          · exact (hr'.out.drewN _).store 1 _
          · exact ha'.out.only (S := fun k => k = rb) (Only.setCell (S := fun k => k = rb) (p := ⟨rb, 1, none⟩) ((Only.refl _ _).drewN _) (.inl rfl) _) (by omega)
          · exact (ho'.out.drewN _).setCell (.inl rfl) _
      case rest =>
        obtain ⟨hr1, ha1, ho1⟩ := hcut
        clear hr' ha' ho' c0 c1 f1
        have hr' := Lib.hid hr1; clear hr1
        have ha' := Lib.hid ha1; clear ha1
        have ho' := Lib.hid ho1; clear ho1
        obtain ⟨wb, rfl⟩ : ∃ x : World, x = wc := ⟨_, rfl⟩
        have hz := ho'.out.size
        have hrb : rb < wb.heap.size := hr'.out.lt
        go_upto_region 5 with fail
        go_cut [6] (fun t6 wx => t6 = .pointer (some ⟨wb.heap.size, 0, none⟩) ∧ Blk wx wb.heap.size 118 (elArr ⟨c, false, G.none'⟩) ∧ Blk wx rb 112 #[.string p, .int .i64 (k + 1 : Nat)] ∧ Only (fun k => k = rb ∨ wb.heap.size ≤ k) wb wx)
        case first =>
          go_wp2_with (first
            | (refine wpList_build_to rfl 118 #[(0, .tmp 36)] rfl (elArr ⟨c, false, G.none'⟩) (built_lit c) ?_)
            | (refine wpList_store_row rfl 118 (.tmp 6) (.tmp 37) rfl wb.heap.size (elArr ⟨c, false, G.none'⟩) rfl rfl 118 (elArr ⟨0, false, G.none'⟩) (by rw [← zero_el]; exact heap_alloc_new wb _) (sizeEl' _) (by rw [size_elArr, size_elArr]) (one_elArr _) ?_))
          go_meet
          case rel =>
            exact ⟨rfl, (Blk.new wb _ _).row _, (hr'.out.alloc _).rowOther (by omega) _, ((Only.refl _ _).alloc _).setRow (.inl (.inr (Nat.le_refl _))) _⟩
        case rest =>
          obtain ⟨rfl, hx1, hr1, ho1⟩ := hcut
          clear hr'
          have hx' := Lib.hid hx1; clear hx1
          have hr' := Lib.hid hr1; clear hr1
          have ho1' := Lib.hid ho1; clear ho1
          obtain ⟨wa, rfl⟩ : ∃ x : World, x = wc := ⟨_, rfl⟩
          have hds : ∃ r, (bs p).drop k = c :: r ∧ r = (bs p).drop (k + 1) := ⟨_, G.drop_of_get hpk'.out, rfl⟩
          obtain ⟨r, hdr, hr0⟩ := hds
          have hdr' := Lib.hid hdr; clear hdr
          have hr0' := Lib.hid hr0; clear hr0
          go_upto_block 2 with fail
          go_cut [4] (fun s4 wx => s4 = l4 ∧ ∃ x k2, k < k2 ∧ k2 ≤ p.size ∧ Blk wx wb.heap.size 118 (elArr x) ∧ Blk wx rb 112 #[.string p, .int .i64 (k2 : Nat)] ∧ Only (fun k => k = rb ∨ wb.heap.size ≤ k) wb wx ∧ G.go .out acc ((bs p).drop k) = G.go .out (G.app acc x) ((bs p).drop k2))
          case first =>
            have hgx1 := hx'.out.lt
            by_cases e1 : c = 124
            · subst e1
              have hdr2 : G.go .out acc ((bs p).drop k) = G.go .out (acc ++ [[]]) ((bs p).drop (k + 1)) := by rw [hdr'.out, ← hr0'.out, G.go_bar]
              have hdr2' := Lib.hid hdr2; clear hdr2 hdr' hr0'
              have haa := ha'.out.later ho1'.out hlt
              obtain ⟨vs, hvs⟩ := haa.outer
              have hne := own_blk_ne' hvs hr'.out (by decide)
              have hvlt := fun g hg => (hvs.lt g hg).1
              have haa' := Lib.hid haa; clear haa
              have hvs' := Lib.hid hvs; clear hvs
              have hne' := Lib.hid hne; clear hne
              have hvlt' := Lib.hid hvlt; clear hvlt
              have hwa := ho1'.out.size
              go_wp2_with (at_builtin; refine wpList_append_own _ rfl (.tmp 44) (.tmp 45) 64 rfl w.heap.size 67 i0 (.slice none 0 0) 1 24 Try.underlying64 hi0 hz0 hz1 hz2 rfl (by decide) l4 acc.length vs rfl (hvs'.out.alloc _) ⟨wa.heap.size, 0, none⟩ 1 1 [.slice none 0 0] rfl rfl (cell_one_new _ _ _) (by intro u hu; simp at hu; subst hu; rfl) (by simp only [maxLen]; omega) (by omega) (by simp; omega) ?_; intro v' w1 hown' hgrow _)
              go_roundw
              case rel =>
                have hwx : Only (fun k => k = rb ∨ wb.heap.size ≤ k) wb (wa.alloc (.cells #[.slice none 0 0] 67)) := ho1'.out.alloc _
                have hrx := (hr'.out.alloc (.cells #[.slice none 0 0] 67)).only (only_grown hgrow) (fun e => hne'.out e)
                refine ⟨k + 1, acc ++ [[]], by omega, by simp; omega, fun a ha => ?_, hrx, (ha'.out.later hwx hlt).bar (hvs'.out.alloc _) hown' hgrow, ?_, ?_⟩
                · rw [List.mem_append] at ha
                  rcases ha with ha | ha
                  · have := hn2'.out a ha; omega
                  · simp at ha; subst ha; simp
                · refine (ho'.out.step hwx fun i hi => ?_).grown hgrow fun k hk => .inr (hvlt'.out k hk)
                  rcases hi with hi | hi
                  · exact .inl hi
                  · exact .inr (by omega)
                · rw [hgo'.out]; exact hdr2'.out
              case measure =>
                have hrx := (hr'.out.alloc (.cells #[.slice none 0 0] 67)).only (only_grown hgrow) (fun e => hne'.out e)
                rw [placeOf_blk hrx, hpl'.out]
                omega
            have b1 : ((c : Int) == 124) = false := by rw [beq_eq_false_iff_ne]; omega
            by_cases e2 : c = 42
            · subst e2
              have hdr2 : G.go .out acc ((bs p).drop k) = G.go .out (G.app acc G.starEl) ((bs p).drop (k + 1)) := by rw [hdr'.out, ← hr0'.out, G.go_star]
              have hdr2' := Lib.hid hdr2; clear hdr2 hdr' hr0'
              go_wp2_with (first
                | (go_at_call 80; refine (every_any _).mono ?_; rintro e w' ⟨rfl, hbe⟩)
                | (refine wpList_build_to rfl 118 #[(1, .const (.bool true)), (2, .tmp 49)] rfl (elArr ⟨0, true, G.pr⟩) (built_star G.pr) ?_)
                | (refine wpList_store_row rfl 118 (.tmp 6) (.tmp 50) rfl wb.heap.size (elArr ⟨0, true, G.pr⟩) rfl rfl 118 (elArr ⟨42, false, G.none'⟩) (hx'.out.below hbe hgx1) (sizeEl' _) (by rw [size_elArr, size_elArr]) (one_elArr _) ?_))
              go_meet
              case rel => exact ⟨rfl, G.starEl, k + 1, by omega, by omega, (hx'.out.below hbe hgx1).row _, (hr'.out.below hbe hr'.out.lt).rowOther (by omega) _, (ho1'.out.step (Only.of_below (S := fun _ => False) hbe fun k h1 h2 => by omega) fun i hi => hi.elim).setRow (.inl (.inr (Nat.le_refl _))) _, hdr2'.out⟩
            have b2 : ((c : Int) == 42) = false := by rw [beq_eq_false_iff_ne]; omega
            by_cases e3 : c = 63
            · subst e3
              have hdr2 : G.go .out acc ((bs p).drop k) = G.go .out (G.app acc G.anyEl) ((bs p).drop (k + 1)) := by rw [hdr'.out, ← hr0'.out, G.go_any]
              have hdr2' := Lib.hid hdr2; clear hdr2 hdr' hr0'
              go_wp2_with (first
                | (go_at_call 80; refine (every_any _).mono ?_; rintro e w' ⟨rfl, hbe⟩)
                | (refine wpList_build_to rfl 118 #[(2, .tmp 53)] rfl (elArr ⟨0, false, G.pr⟩) (built_sub G.pr) ?_)
                | (refine wpList_store_row rfl 118 (.tmp 6) (.tmp 54) rfl wb.heap.size (elArr ⟨0, false, G.pr⟩) rfl rfl 118 (elArr ⟨63, false, G.none'⟩) (hx'.out.below hbe hgx1) (sizeEl' _) (by rw [size_elArr, size_elArr]) (one_elArr _) ?_))
              go_meet
              case rel => exact ⟨rfl, G.anyEl, k + 1, by omega, by omega, (hx'.out.below hbe hgx1).row _, (hr'.out.below hbe hr'.out.lt).rowOther (by omega) _, (ho1'.out.step (Only.of_below (S := fun _ => False) hbe fun k h1 h2 => by omega) fun i hi => hi.elim).setRow (.inl (.inr (Nat.le_refl _))) _, hdr2'.out⟩
            have b3 : ((c : Int) == 63) = false := by rw [beq_eq_false_iff_ne]; omega
            by_cases e4 : c = 91
            · subst e4
              have hdr2 : ∀ acc2, G.go .out acc2 ((bs p).drop k) = opened acc2 ((bs p).drop (k + 1)) := fun acc2 => by rw [hdr'.out, ← hr0'.out, go_opened]
              have hdr2' := Lib.hid hdr2; clear hdr2 hdr' hr0'
              go_wp2_with (first
                | (go_at_call 81; refine (set_any p (k + 1) rb _ hr'.out (by omega) hp hall'.out).mono ?_; intro e w' hset; obtain ⟨s, ok, a2, rfl, ha1, ha2, hdone, hr2, ho2⟩ := hset; have hdone' := Lib.hid hdone; clear hdone; have hr2' := Lib.hid hr2; clear hr2; have ho2' := Lib.hid ho2; clear ho2; cases ok)
                | (refine wpList_store_row rfl 116 (.tmp 7) (.tmp 60) rfl w'.heap.size (setArr s) rfl rfl 116 (setArr G.none') (by rw [← zero_set]; exact heap_alloc_new w' (.cells Try.zeroCells116 116)) (sizeSet' s) (by rw [size_setArr, size_setArr]) (one_setArr s) ?_)
                | (refine wpList_load_row rfl 116 (.tmp 7) rfl w'.heap.size rfl 116 (setArr s) (0, 0) _ ((Blk.new w' 116 Try.zeroCells116).row (setArr s)) Try.underlying116 rfl (sizeSet' s) ?_)
                | (refine wpList_build_one rfl 118 2 (.tmp 64) rfl (.agg (setArr s)) rfl (elArr ⟨0, false, s⟩) (built_sub s) ?_)
                | (refine wpList_store_row rfl 118 (.tmp 6) (.tmp 65) rfl wb.heap.size (elArr ⟨0, false, s⟩) rfl rfl 118 (elArr ⟨91, false, G.none'⟩) (((hx'.out.only ho2'.out (by omega)).alloc (.cells Try.zeroCells116 116)).rowOther (g' := w'.heap.size) (by have := ho2'.out.size; omega) (setArr s)) (sizeEl' ⟨0, false, s⟩) (by rw [size_elArr, size_elArr]) (one_elArr ⟨0, false, s⟩) ?_))
              · go_ret2
                have hz2 := ho2'.out.size
                refine ⟨.slice none 0 0, false, rfl, (((ho'.out.step ho1'.out fun i hi => ?_).trans ho2'.out).alloc _).setRow (.inr (by omega)) _, fun _ => ?_, fun e => by cases e⟩
                · rcases hi with hi | hi
                  · exact .inl hi
                  · exact .inr (by omega)
                · rw [hgo'.out, hdr2'.out]; exact hdone'.out.2 rfl acc
              · go_meet
                case rel =>
                  have hz2 := ho2'.out.size
                  refine ⟨rfl, G.setEl s, a2, by omega, by omega, (((hx'.out.only ho2'.out (by omega)).alloc _).rowOther (by omega) _).row _, ((hr2'.out.alloc _).rowOther (by have := hr2'.out.lt; omega) _).rowOther (by omega) _, ?_, ?_⟩
                  · exact (((ho1'.out.step ho2'.out fun i hi => .inl (.inl hi)).alloc _).setRow (.inl (.inr (by omega))) _).setRow (.inl (.inr (Nat.le_refl _))) _
                  · rw [hdr2'.out]; exact hdone'.out.1 rfl acc
            have b4 : ((c : Int) == 91) = false := by rw [beq_eq_false_iff_ne]; omega
            have hc126 : c < 127 := by
              have := hall'.out c (List.mem_of_getElem? hpk'.out)
              simp only [G.pr, Bool.and_eq_true, decide_eq_true_eq] at this
              omega
            obtain ⟨v0, hv0⟩ : ∃ v, wa.cell? ⟨wb.heap.size, 2 + c, none⟩ = some v := ⟨_, (hx'.out.cell (2 + c)).trans (elArr_set _ c hc126)⟩
            have fx := hx'.out.frozen (2 + c)
            go_wp2_with fail
            go_meet
            case rel =>
              refine ⟨rfl, G.litEl c, k + 1, by omega, by omega, ?_, hr'.out.other (by simp; omega) _, ho1'.out.setCell (.inl (.inr (Nat.le_refl _))) _, ?_⟩
              · have := hx'.out.store (2 + c) (.bool true)
                rw [elArr_upd] at this
                exact this
              · rw [hdr'.out, ← hr0'.out, G.go_lit _ _ _ e1 e2 e3 e4]
          case rest =>
            obtain ⟨rfl, x, k2, hk2, hk2', hx2, hr2, ho2, hgo2⟩ := hcut
            clear hx' hr' ho1' hdr' hr0' hpk'
            obtain ⟨init, last, vi, vl, B1, hacc, g1, h2, g3, h4, g4, g5⟩ := ha'.out
            clear ha'
            subst hacc
            have hnn : ∀ {B' : Nat} {e : TypeId} {size n : Nat} {u : Value} {xs : List Value}, w.heap.size ≤ B' → wb.ownsRow B' e size u n xs → ∀ g, u.ownBlock = some g → ¬ (g = rb ∨ wb.heap.size ≤ g) := fun hB hu g hg hs => by
              have := hu.lt g hg
              omega
            have hvx : ∀ q, vl.ownBlock = some q → q < wb.heap.size := fun q hq => (g5.lt q hq).2
            have h1 := own_only g1 ho2 (hnn (Nat.le_refl _) g1)
            have h5 : Row wc B1 vl last := own_only g5 ho2 (hnn h4 g5)
            have h3 : ∀ (i : Nat) (a : List G.El), init[i]? = some a → ∃ u, vi[i]? = some u ∧ Row wc w.heap.size u a ∧ ∀ g, u.ownBlock = some g → g < B1 := fun i a hi => by
              obtain ⟨u, hu, hr, hg⟩ := g3 i a hi
              exact ⟨u, hu, own_only hr ho2 (hnn (Nat.le_refl _) hr), hg⟩
            have h4' : B1 ≤ wc.heap.size := Nat.le_trans g4 ho2.size
            clear g1 g3 g4 g5 hnn
            have hlen : (init ++ [last]).length = init.length + 1 := by simp
            rw [hlen] at h1
            obtain ⟨g, cap, hu4, hgB, hglt⟩ := h1.form (by omega)
            subst hu4
            have hcl : wc.cell? ⟨g, init.length, none⟩ = some vl := by
              rw [h1.cellAt init.length (by omega), ← h2, List.getElem?_append_right (Nat.le_refl _)]
              simp
            have hfr := h1.frozenAt init.length
            have hrx : wc.rangeAt wb.heap.size 0 (elL x) := hx2.range 0 _ fun j v hv => by simpa [elL] using hv
            have hvg : some g ≠ vl.ownBlock := fun e => own_ne h5 h1 (by decide) g e.symm rfl
            have hgx1 := hx2.lt
            have hin : init.length + 1 ≤ 257 := by rw [← hlen]; omega
            have hln : last.length ≤ 256 := by have := hn2'.out last (by simp); omega
            have hze := size_elArr x
            obtain ⟨j0, hj0, hj1, hj2, hj3⟩ := info_parts info_el
            have h1' := Lib.hid h1; clear h1
            have h2' := Lib.hid h2; clear h2
            have h3' := Lib.hid h3; clear h3
            have h5' := Lib.hid h5; clear h5
            have hx' := Lib.hid hx2; clear hx2
            have hr' := Lib.hid hr2; clear hr2
            have ho2' := Lib.hid ho2; clear ho2
            have hgo2' := Lib.hid hgo2; clear hgo2
            have hlen' := Lib.hid hlen; clear hlen
            have hwr : IntKind.i64.wrap (init.length : Int) = (init.length : Int) := IntWalk.i64_in _ (by omega)
            have hi1 : (0 : Int) ≤ (init.length : Int) := by omega
            have hi2 : (init.length : Int) < (init.length : Int) + 1 := by omega
            obtain ⟨wx, rfl⟩ : ∃ y : World, y = wc := ⟨_, rfl⟩
            go_wp2_with fail
            have hH := Held.mk' hcl hfr hrx
            have hH' := Lib.hid hH; clear hH hcl hfr hrx
            have hF1 := hH'.out.2.2.1
            have hF2 := hH'.out.2.2.2
            have hcl := hH'.out.1
            have hfr := hH'.out.2.1
            have own1 : (wx.alloc (.cells (elArr x) 118)).drew.ownsRow B1 118 129 vl last.length (flat last) := (h5'.out.alloc _).drew
            have news1 : ∀ j u, (elL x)[j]? = some u → (wx.alloc (.cells (elArr x) 118)).drew.cell? ((⟨wx.heap.size, 0, none⟩ : Addr).add j) = some u := World.news_of_block (w := wx.alloc (.cells (elArr x) 118)) (cs := elArr x) (t := 118) (fr := (0, 0)) (heap_alloc_new _ _)
            have len1 : (elL x).length = 1 * 129 := by rw [length_elL]
            have max1 : last.length + 1 ≤ maxLen := by simp only [maxLen]; omega
            have base1 : B1 ≤ (wx.alloc (.cells (elArr x) 118)).drew.heap.size := by simp; omega
            have size1 : (wx.alloc (.cells (elArr x) 118)).drew.heap.size = wx.heap.size + 1 := by simp
            have grow1 : ∀ w1 : World, (wx.alloc (.cells (elArr x) 118)).drew.grownBy w1 vl.ownBlock → Held w1 g init.length vl wb.heap.size x := fun w1 hg1 => Held.grown (w := (wx.alloc (.cells (elArr x) 118)).drew) (Held.alloc (w := wx) hH'.out _) hg1 hvg hvx
            have own1' := Lib.hid own1; clear own1
            have news1' := Lib.hid news1; clear news1
            have len1' := Lib.hid len1; clear len1
            have size1' := Lib.hid size1; clear size1
            have grow1' := Lib.hid grow1; clear grow1
            go_region_law (refine step_append_lies ((wx.alloc (.cells (elArr x) 118)).drew) (by rfl) (.tmp 75) (.tmp 77) 67 (by rfl) B1 118 j0 (.agg (elArr ⟨0, false, G.none'⟩)) 129 129 Try.underlying67 hj0 hj1 hj2 hj3 (size_elArr _) (Nat.zero_lt_succ _) vl last.length (flat last) (by simp [Act.eval]) own1'.out ⟨wx.heap.size, 0, none⟩ 1 1 (elL x) (by simp [Act.eval]) len1'.out news1'.out (one_elL x) (Nat.zero_lt_succ _) max1 (by omega) base1 (wx.heap.size + 1) size1'.out ?_; intro gg cap2 w1 hown1 hgrow hat hlt1; have q0 := grow1'.out w1 hgrow; have q1 := q0.1; have q2 := q0.2.1; clear q0)
            all_goals clear hF1 hF2 hcl hfr q1 q2
            all_goals
              have hb1 : Below wx.heap.size wx (wx.alloc (.cells (elArr x) 118)).drew := ((Below.refl _ _).alloc (Nat.le_refl _) _).drew
              have hfin := acc_more h1'.out h2'.out h3'.out h4 h4' h5'.out hb1 hown1 hgrow
              obtain ⟨hacc, honly⟩ := hfin
              have hne1 := own_blk_ne' h5'.out hr'.out (by decide)
              have hne2 : rb ≠ g := by omega
              have hrf := (((hr'.out.alloc (.cells (elArr x) 118)).drew).only (only_grown hgrow) hne1).other (p := ⟨g, init.length, none⟩) hne2 (.slice (some ⟨gg, 0, none⟩) (last.length + 1) cap2)
              have hacc' := Lib.hid hacc; clear hacc
              have honly' := Lib.hid honly; clear honly
              have hrf' := Lib.hid hrf; clear hrf
              go_wp2_with fail
              go_roundw
              case rel =>
                refine ⟨k2, G.app (init ++ [last]) x, hk2', ?_, fun a ha => ?_, hrf'.out, ?_, ?_, ?_⟩
                · rw [app_init]; simp; rw [hlen'.out] at hn1; omega
                · rw [app_init, List.mem_append] at ha
                  rcases ha with ha | ha
                  · have := hn2'.out a (List.mem_append_left _ ha); omega
                  · simp only [List.mem_singleton] at ha
                    subst ha
                    have := hn2'.out last (by simp)
                    simp; omega
                · rw [app_init]; exact hacc'.out
                · refine ((ho'.out.step ho2'.out fun i hi => ?_).step honly'.out fun i hi => .inr (by omega))
                  rcases hi with hi | hi
                  · exact .inl hi
                  · exact .inr (by omega)
                · rw [hgo'.out]; exact hgo2'.out
              case measure =>
                rw [placeOf_blk hrf'.out, hpl'.out]
                omega
    · obtain rfl : k = p.size := by omega
      have hfin : G.go .out [[]] (bs p) = some acc := by
        rw [hgo'.out, List.drop_eq_nil_of_le (by rw [length_bs]; exact Nat.le_refl _)]
        simp [G.go]
      have hfin' := Lib.hid hfin; clear hfin
      go_wp2_with fail
      go_quiet (fail)
      go_wp2_with fail
      go_ret2
      exact ⟨l4, true, rfl, ho'.out.drewN _, (fun e => by cases e), fun _ => ⟨acc, hfin'.out, (ha'.out.only (S := fun _ => False) ((Only.refl _ _).drewN _) fun _ h => h.elim).alts, by omega, fun a ha => by have := hn2'.out a ha; omega⟩⟩

end Go.Proofs.Ytfihccfjboopiaa
