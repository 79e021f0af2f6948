/-
  THE WALK of glob's (*search).skips.
-/
import Derived.Test.YtfihccfjboopiaaComMem
import Derived.Deep.DrawnRows
import Derived.Outline
namespace Go.Proofs.Ytfihccfjboopiaa
open Go.RowKit

theorem Alts.below {w w' : World} {B : Nat} {v : Value} {l : List (List G.El)} (h : Alts w B v l) (hb : Below w.heap.size w w') : Alts w' B v l := by
  have ho : Only (fun _ => False) w w' := Only.of_below hb fun k h1 h2 => by omega
  obtain ⟨vs, h1, h2⟩ := h
  exact ⟨vs, own_only h1 ho (fun _ _ h => h), fun i a hi => by
    obtain ⟨u, hu, hr⟩ := h2 i a hi
    exact ⟨u, hu, own_only hr ho (fun _ _ h => h)⟩⟩

/-- A slice of pairs of places. -/
def Poss (w : World) (B : Nat) (v : Value) (xs : List G.Pos) : Prop := w.ownsRow B 86 4 v xs.length (xs.flatMap posL)
theorem length_flat_pos (xs : List G.Pos) : (xs.flatMap posL).length = xs.length * 4 := by
  induction xs with
  | nil => rfl
  | cons x xs ih => rw [List.flatMap_cons, List.length_append, ih]; simp [posL]; omega
def posA (x : G.Pos) : Array Value := #[.int .i64 x.a, .int .i64 x.i, .int .i64 x.b, .int .i64 x.j]
theorem info_pair : (Try.prog.info? 86).map (fun i => (i.zero, i.size, i.bytes)) = some (some (.agg #[.int .i64 0, .int .i64 0, .int .i64 0, .int .i64 0]), 4, 32) := by kernel_rfl

/-- What holds of the search's struct. -/
structure Sch (w : World) (B sb mb : Nat) (vp vq : Value) (P Q : List (List G.El)) : Prop where
  blk : Blk w sb 81 #[vp, vq, .map (some mb)]
  ap : Alts w B vp P
  aq : Alts w B vq Q
theorem Sch.below {w w' : World} {B sb mb : Nat} {vp vq : Value} {P Q : List (List G.El)} (h : Sch w B sb mb vp vq P Q) (hb : Below w.heap.size w w') : Sch w' B sb mb vp vq P Q :=
  ⟨h.blk.below hb h.blk.lt, h.ap.below hb, h.aq.below hb⟩

theorem getD_some {P : List (List G.El)} {a : Nat} (h : a < P.length) : P[a]? = some (P.getD a []) := by
  rw [List.getD_eq_getElem?_getD, List.getElem?_eq_getElem h]; rfl
theorem starts_elAt (l : List G.El) (i : Nat) : G.starts (l.drop i) = (decide (i < l.length) && (elAt l i).star) := by
  rcases Nat.lt_or_ge i l.length with h | h
  · rw [List.drop_eq_getElem_cons h, elAt_lt (List.getElem?_eq_getElem h), decide_eq_true h]; rfl
  · rw [List.drop_eq_nil_of_le h, decide_eq_false (by omega)]; rfl

/-! A WHOLE ELEMENT STORED INTO A BLOCK OF ITS OWN, in a region that draws its order: at the level of the whole operation. -/
def roomAt (w : World) (g : Nat) (cs : Array Value) (n : Nat) : Bool := match w.heap[g]? with
  | some (.cells cur _ (0, 0)) => decide (cur.size = n) && decide (cs.size = n) && cs.all (·.oneCell')
  | _ => false
theorem room_blk {w : World} {g : Nat} {t : TypeId} {cur cs : Array Value} {n : Nat} (h : Blk w g t cur) (h1 : cur.size = n) (h2 : cs.size = n) (h3 : cs.all (·.oneCell') = true) : roomAt w g cs n = true := by
  unfold Blk at h
  unfold roomAt
  rw [h]
  show (decide (cur.size = n) && decide (cs.size = n) && cs.all (·.oneCell')) = true
  rw [h3, decide_eq_true h1, decide_eq_true h2]
  rfl
theorem room_inv {w : World} {g : Nat} {cs : Array Value} {n : Nat} (h : roomAt w g cs n = true) : ∃ t cur, Blk w g t cur ∧ cur.size = n ∧ cs.size = n ∧ cs.all (·.oneCell') = true := by
  unfold roomAt at h
  split at h
  · rename_i cur t he
    simp only [Bool.and_eq_true, decide_eq_true_eq] at h
    exact ⟨t, cur, he, h.1.1, h.1.2, h.2⟩
  · cases h
def storeTo (n : Nat) (v u : Value) (w : World) (els : Result Next) : Result Next := match v, u with
  | .pointer (some ⟨g, 0, none⟩), .agg cs => if roomAt w g cs n = true then .ok .skip (w.setRow g cs) else els
  | _, _ => els
theorem storeTo_ptr (n g : Nat) (cs : Array Value) (w : World) (els : Result Next) : storeTo n (.pointer (some ⟨g, 0, none⟩)) (.agg cs) w els = if roomAt w g cs n = true then .ok .skip (w.setRow g cs) else els := rfl
theorem store_to_op (ev : Operand → Value) (d : Option Tmp) (x y : Operand) (ty : TypeId) (pos : String) (after : Array Edge) (guard : Option (Nat × Bool)) (w : World) :
    Sem.run Try.prog (execOp ev ⟨d, .store 118 x y, ty, pos, after, guard⟩) w = storeTo 129 (ev x) (ev y) w (thatRun Try.prog ev ⟨d, .store 118 x y, ty, pos, after, guard⟩ w) := by
  unfold storeTo
  split
  · rename_i g cs he hf
    split
    · rename_i h
      obtain ⟨t, cur, hb, h1, h2, h3⟩ := room_inv h
      unfold execOp
      simp only [he, hf, Instr.storeAt, Instr.sureAddr, Sem.run_bind, Sem.run_pure, Result.andThen_ok, run_storeVar_row w g t 118 cur cs hb (by rw [h2]; exact sizeEl) (by rw [h1, h2]) h3]
    · rfl
  · rfl
theorem room_new (W : World) (x : G.El) : roomAt (W.alloc (.cells Try.zeroCells118 118)) W.heap.size (elArr x) 129 = true :=
  room_blk (Blk.new W _ _) (by rw [zero_elC, size_elArr]) (size_elArr x) (one_elArr x)
theorem room_below {W w' : World} {B g n : Nat} {cs : Array Value} (h : roomAt W g cs n = true) (hb : Below B W w') (hlt : g < B) : roomAt w' g cs n = true := by
  obtain ⟨t, cur, h0, h1, h2, h3⟩ := room_inv h
  exact room_blk (h0.below hb hlt) h1 h2 h3
theorem own_below {w w' : World} {B : Nat} {e : TypeId} {size n : Nat} {v : Value} {xs : List Value} (h : w.ownsRow B e size v n xs) (hb : Below w.heap.size w w') : w'.ownsRow B e size v n xs :=
  own_only h (Only.of_below (S := fun _ => False) hb fun k h1 h2 => by omega) (fun _ _ h => h)
theorem own_row {w : World} {B g : Nat} {e t : TypeId} {size n : Nat} {v : Value} {xs : List Value} {cs0 : Array Value} (h : w.ownsRow B e size v n xs) (hb : Blk w g t cs0) (hne : e ≠ t) (cs : Array Value) : (w.setRow g cs).ownsRow B e size v n xs :=
  own_only h (Only.setRow (S := fun k => k = g) (Only.refl _ _) (.inl rfl) cs) (fun k hk e => own_blk_ne' h hb hne (by rw [hk, e]))
theorem pos_new (W : World) (x : G.Pos) : ∀ j u, (posL x)[j]? = some u → (W.alloc (.cells #[.int .i64 x.a, .int .i64 x.i, .int .i64 x.b, .int .i64 x.j] 86)).cell? ((⟨W.heap.size, 0, none⟩ : Addr).add j) = some u :=
  World.news_of_block (cs := #[.int .i64 x.a, .int .i64 x.i, .int .i64 x.b, .int .i64 x.j]) (t := 86) (fr := (0, 0)) (heap_alloc_new W _)
theorem posL_one (x : G.Pos) : ∀ u ∈ posL x, u.oneCell' = true := by simp [posL, Value.oneCell']
theorem flat_snoc (xs : List G.Pos) (x : G.Pos) : xs.flatMap posL ++ posL x = (xs ++ [x]).flatMap posL := by simp

set_option maxRecDepth 100000 in
set_option maxHeartbeats 2000000 in
attribute [local go_sem ↓] store_to_op in
attribute [local go_sem] storeTo_ptr room_new in
theorem skips_any (P Q : List (List G.El)) (B sb mb : Nat) (vp vq : Value) (x : G.Pos) (w : World) (hs : Sch w B sb mb vp vq P Q) (hx : G.InP P Q x) (hsm : x.i ≤ 256 ∧ x.j ≤ 256) :
    Calls Try.prog 68 #[.pointer (some ⟨sb, 0, none⟩), posV x] w fun e w' => ∃ v, e = .returned v ∧ Poss w' w.heap.size v (G.skipsOf P Q x) ∧ Below w.heap.size w w' := by
  have hsb := hs.blk.lt
  obtain ⟨hsm1, hsm2⟩ := hsm
  obtain ⟨ep, hep⟩ : ∃ y, y = elAt (P.getD x.a []) x.i := ⟨_, rfl⟩
  obtain ⟨eq, heq⟩ : ∃ y, y = elAt (Q.getD x.b []) x.j := ⟨_, rfl⟩
  obtain ⟨okp, hokp⟩ : ∃ y, y = decide (x.i < (P.getD x.a []).length) := ⟨_, rfl⟩
  obtain ⟨okq, hokq⟩ : ∃ y, y = decide (x.j < (Q.getD x.b []).length) := ⟨_, rfl⟩
  have hst1 : G.starts (G.prOf P Q x).1 = (okp && ep.star) := by rw [hokp, hep]; exact starts_elAt _ _
  have hst2 : G.starts (G.prOf P Q x).2 = (okq && eq.star) := by rw [hokq, heq]; exact starts_elAt _ _
  obtain ⟨i0, hi0, hz0, hz1, hz2'⟩ := info_parts info_pair
  unfold posV
  go_enter Try.func68, Try.ntmps68
  go_wp2_with fail
  have hB0 : Below w.heap.size w (w.alloc (.cells (posA x) 86)) := (Below.refl _ _).alloc (Nat.le_refl _) _
  have hS0 := hs.below hB0
  have hX0 := Blk.new w 86 (posA x)
  have hz0' : (w.alloc (.cells (posA x) 86)).heap.size = w.heap.size + 1 := by simp
  unfold posA at hB0 hS0 hX0 hz0'
  generalize (w.alloc (.cells #[.int .i64 x.a, .int .i64 x.i, .int .i64 x.b, .int .i64 x.j] 86)) = W at *
  have hsz : w.heap.size < W.heap.size := by omega
  have KEEP : ∀ w', Below W.heap.size W w' → Below W.heap.size W w' ∧ w'.cell? ⟨sb, 0, none⟩ = some vp ∧ w'.cell? ⟨sb, 1, none⟩ = some vq ∧ w'.cell? ⟨w.heap.size, 0, none⟩ = some (.int .i64 x.a) ∧ w'.cell? ⟨w.heap.size, 1, none⟩ = some (.int .i64 x.i) ∧ w'.cell? ⟨w.heap.size, 2, none⟩ = some (.int .i64 x.b) ∧ w'.cell? ⟨w.heap.size, 3, none⟩ = some (.int .i64 x.j) := fun w' h =>
    ⟨h, (h.cell (p := ⟨sb, 0, none⟩) (by show sb < _; omega)).trans ((hS0.blk.cell 0).trans rfl), (h.cell (p := ⟨sb, 1, none⟩) (by show sb < _; omega)).trans ((hS0.blk.cell 1).trans rfl), (h.cell (p := ⟨w.heap.size, 0, none⟩) hsz).trans ((hX0.cell 0).trans rfl), (h.cell (p := ⟨w.heap.size, 1, none⟩) hsz).trans ((hX0.cell 1).trans rfl), (h.cell (p := ⟨w.heap.size, 2, none⟩) hsz).trans ((hX0.cell 2).trans rfl), (h.cell (p := ⟨w.heap.size, 3, none⟩) hsz).trans ((hX0.cell 3).trans rfl)⟩
  have HA : ∀ W', Below W.heap.size W W' → Calls Try.prog 86 #[vp, .agg #[.int .i64 x.a, .int .i64 x.i]] W' fun e w' => e = .returned (.tuple #[.agg (elArr ep), .bool okp]) ∧ Below W'.heap.size W' w' := fun W' hb => by
    rw [hep, hokp]
    exact at_any P B vp x.a x.i _ W' (hS0.below hb).ap (getD_some hx.1) hx.2.2.1
  have HC : ∀ W', Below W.heap.size W W' → Calls Try.prog 86 #[vq, .agg #[.int .i64 x.b, .int .i64 x.j]] W' fun e w' => e = .returned (.tuple #[.agg (elArr eq), .bool okq]) ∧ Below W'.heap.size W' w' := fun W' hb => by
    rw [heq, hokq]
    exact at_any Q B vq x.b x.j _ W' (hS0.below hb).aq (getD_some hx.2.1) hx.2.2.2
  have KEEP' := Lib.hid KEEP; clear KEEP
  have HA' := Lib.hid HA; clear HA
  have HC' := Lib.hid HC; clear HC
  have hB' := Lib.hid hB0; clear hB0
  have hz' := Lib.hid hz0'; clear hz0' hS0 hX0 hs hep heq hokp hokq
  have hst1' := Lib.hid hst1; clear hst1
  have hst2' := Lib.hid hst2; clear hst2
  have hx' := Lib.hid hx; clear hx
  -- the place in p
  obtain ⟨wo, hwo⟩ : ∃ y : World, y = W := ⟨_, rfl⟩
  have hbo : Below W.heap.size W wo := by rw [hwo]; exact Below.refl _ _
  have hzo : W.heap.size ≤ wo.heap.size := hbo.size
  rw [← hwo]
  clear hwo
  go_cut [6, 7] (fun t6 t7 wx => ∃ g, t6 = .pointer (some ⟨g, 0, none⟩) ∧ t7 = .bool okp ∧ Blk wx g 118 (elArr ep) ∧ Below W.heap.size W wx)
  case first =>
    go_region_held3 (fun w' => Below W.heap.size W w' ∧ w'.cell? ⟨sb, 0, none⟩ = some vp ∧ w'.cell? ⟨sb, 1, none⟩ = some vq ∧ w'.cell? ⟨w.heap.size, 0, none⟩ = some (.int .i64 x.a) ∧ w'.cell? ⟨w.heap.size, 1, none⟩ = some (.int .i64 x.i) ∧ w'.cell? ⟨w.heap.size, 2, none⟩ = some (.int .i64 x.b) ∧ w'.cell? ⟨w.heap.size, 3, none⟩ = some (.int .i64 x.j))
      ((go_split_ands; first
      | exact KEEP'.out _ (Below.drew (by assumption))
      | exact KEEP'.out _ (Below.trans (by assumption) (hb.mono (Below.size (by assumption))))
      | exact KEEP'.out _ (Below.alloc (by assumption) (Below.size (by assumption)) _)
      | exact KEEP'.out _ (below_row (by assumption) (by first | exact hz2 | exact hzo) _)
      | exact KEEP'.out _ (Below.grown (by assumption) hgrow (Below.size (by assumption)) (fun k hk => (hown0.lt k hk).1))))
      (first | (go_at_call 86; go_split_ands; refine (HA'.out _ (by assumption)).mono ?_; rintro e w' ⟨rfl, hb⟩; have hz2 : W.heap.size ≤ w'.heap.size := Nat.le_trans (Below.size (w := W) (B := W.heap.size) (by assumption)) hb.size; (try have ht2 : roomAt w' wo.heap.size (elArr ep) 129 = true := room_below (W := (wo.alloc (.cells Try.zeroCells118 118)).drew) (room_new wo ep) hb (by simp))) | fail)
    all_goals go_wp2_with fail
    all_goals go_meet
    all_goals
      refine ⟨_, rfl, rfl, ?_, by go_split_ands; assumption⟩
      first
        | exact (Blk.new _ _ _).row _
        | exact (((Blk.new wo 118 Try.zeroCells118).drew.below hb (by simp)).row _)
  case rest =>
    obtain ⟨g1, rfl, rfl, hg1, hb1⟩ := hcut
    clear hbo hzo
    obtain ⟨wo, rfl⟩ : ∃ y : World, y = wc := ⟨_, rfl⟩
    have hbo : Below W.heap.size W wo := hb1
    have hzo : W.heap.size ≤ wo.heap.size := hbo.size
    clear hb1
    have gs : wo.cell? ⟨g1, 1, none⟩ = some (.bool ep.star) := (hg1.cell 1).trans (elArr_star ep)
    clear hg1
    go_upto_region 3 with fail
    go_cut [24] (fun t wx => t = .bool (okp && ep.star) ∧ wo = wx)
    case first =>
      cases okp
      · go_wp2_with fail
        go_meet
        case rel => exact ⟨rfl, rfl⟩
      · go_wp2_with fail
        go_meet
        case rel => exact ⟨by simp, rfl⟩
    case rest =>
      obtain ⟨rfl, rfl⟩ := hcut
      clear gs
      generalize (okp && ep.star) = st1 at *
      go_upto_if 24 with fail
      go_cut [5] (fun s5 wx => ∃ v, v = s5 ∧ Poss wx W.heap.size v (if st1 then [G.skip1 x] else []) ∧ Below W.heap.size W wx)
      case first =>
        cases st1
        · go_wp2_with fail
          go_meet
          case rel => exact ⟨_, rfl, World.ownsRow_nil _ _ _ _, hbo⟩
        · have hown0 : wo.ownsRow W.heap.size 86 4 (.slice none 0 0) 0 [] := World.ownsRow_nil _ _ _ _
          go_wp2_with fail
          go_region_held3 (fun w' => Below W.heap.size W w' ∧ w'.cell? ⟨sb, 0, none⟩ = some vp ∧ w'.cell? ⟨sb, 1, none⟩ = some vq ∧ w'.cell? ⟨w.heap.size, 0, none⟩ = some (.int .i64 x.a) ∧ w'.cell? ⟨w.heap.size, 1, none⟩ = some (.int .i64 x.i) ∧ w'.cell? ⟨w.heap.size, 2, none⟩ = some (.int .i64 x.b) ∧ w'.cell? ⟨w.heap.size, 3, none⟩ = some (.int .i64 x.j))
        ((go_split_ands; first
      | exact KEEP'.out _ (Below.drew (by assumption))
      | exact KEEP'.out _ (Below.trans (by assumption) (hb.mono (Below.size (by assumption))))
      | exact KEEP'.out _ (Below.alloc (by assumption) (Below.size (by assumption)) _)
      | exact KEEP'.out _ (below_row (by assumption) (by first | exact hz2 | exact hzo) _)
      | exact KEEP'.out _ (Below.grown (by assumption) hgrow (Below.size (by assumption)) (fun k hk => ((World.ownsRow.lt hown1 k hk)).1))))
        (first
          | (go_at_call 87; refine (next_any x.a x.i _ (by omega)).mono ?_; unfold plV; rintro e w' ⟨rfl, hb⟩; have hown1 := own_below (w := wo.drew) hown0 hb; have hz3 : wo.heap.size ≤ w'.heap.size := hb.size; clear hown0)
          | (refine step_append_lies (w'.alloc (.cells #[.int .i64 (G.skip1 x).a, .int .i64 (G.skip1 x).i, .int .i64 (G.skip1 x).b, .int .i64 (G.skip1 x).j] 86)) (by rfl) (.tmp 25) (.tmp 32) 82 (by rfl) W.heap.size 86 i0 _ 4 32 Try.underlying82 hi0 hz0 hz1 hz2' rfl (by omega) (.slice none 0 0) 0 ([]) (by simp [Act.eval]) (hown1.alloc _) ⟨w'.heap.size, 0, none⟩ 1 1 (posL (G.skip1 x)) (by simp [Act.eval]) rfl (pos_new w' (G.skip1 x)) (posL_one (G.skip1 x)) (by omega) (by unfold maxLen; omega) (by omega) (by simp; omega) (w'.heap.size + 1) (by simp) ?_; intro gg cap w1 hown2 hgrow hat hlt1)
          | fail)
          all_goals go_wp2_with fail
          all_goals go_meet
          case rel =>
            refine ⟨_, rfl, ?_, by go_split_ands; assumption⟩
            simpa [Poss] using hown2
      case rest =>
        obtain ⟨v, rfl, hv1, hb1⟩ := hcut
        clear hbo hzo
        obtain ⟨wo, rfl⟩ : ∃ y : World, y = wc := ⟨_, rfl⟩
        have hbo : Below W.heap.size W wo := hb1
        have hzo : W.heap.size ≤ wo.heap.size := hbo.size
        clear hb1
        obtain ⟨l1, hl1⟩ : ∃ y, y = (if st1 then [G.skip1 x] else []) := ⟨_, rfl⟩
        rw [← hl1] at hv1
        have hln : l1.length ≤ 1 := by rw [hl1]; split <;> simp
        have hl1' := Lib.hid hl1; clear hl1
        have hown0 := hv1
        unfold Poss at hown0
        clear hv1
        go_upto_region 5 with fail
        go_cut [8, 9] (fun t6 t7 wx => ∃ g, t6 = .pointer (some ⟨g, 0, none⟩) ∧ t7 = .bool okq ∧ Blk wx g 118 (elArr eq) ∧ Below W.heap.size W wx ∧ wx.ownsRow W.heap.size 86 4 v l1.length (l1.flatMap posL))
        case first =>
          go_region_held3 (fun w' => Below W.heap.size W w' ∧ w'.cell? ⟨sb, 0, none⟩ = some vp ∧ w'.cell? ⟨sb, 1, none⟩ = some vq ∧ w'.cell? ⟨w.heap.size, 0, none⟩ = some (.int .i64 x.a) ∧ w'.cell? ⟨w.heap.size, 1, none⟩ = some (.int .i64 x.i) ∧ w'.cell? ⟨w.heap.size, 2, none⟩ = some (.int .i64 x.b) ∧ w'.cell? ⟨w.heap.size, 3, none⟩ = some (.int .i64 x.j))
            ((go_split_ands; first
            | exact KEEP'.out _ (Below.drew (by assumption))
            | exact KEEP'.out _ (Below.trans (by assumption) (hb.mono (Below.size (by assumption))))
            | exact KEEP'.out _ (Below.alloc (by assumption) (Below.size (by assumption)) _)
            | exact KEEP'.out _ (below_row (by assumption) (by first | exact hz2 | exact hzo) _)
            | exact KEEP'.out _ (Below.grown (by assumption) hgrow (Below.size (by assumption)) (fun k hk => (hown0.lt k hk).1))))
            (first | (go_at_call 86; go_split_ands; refine (HC'.out _ (by assumption)).mono ?_; rintro e w' ⟨rfl, hb⟩; have hz2 : W.heap.size ≤ w'.heap.size := Nat.le_trans (Below.size (w := W) (B := W.heap.size) (by assumption)) hb.size; (try have ht2 : roomAt w' wo.heap.size (elArr eq) 129 = true := room_below (W := (wo.alloc (.cells Try.zeroCells118 118)).drew) (room_new wo eq) hb (by simp))) | fail)
          all_goals go_wp2_with fail
          all_goals go_meet
          all_goals
            refine ⟨_, rfl, rfl, ?_, by go_split_ands; assumption, ?_⟩
            rotate_left
            · first
                | exact own_row (own_below (w := (wo.alloc (.cells Try.zeroCells118 118)).drew) ((hown0.alloc _).drew) hb) ((Blk.new wo 118 Try.zeroCells118).drew.below hb (by simp)) (by decide) _
                | exact own_row ((own_below (w := wo.drew) hown0 hb).alloc _) (Blk.new _ _ _) (by decide) _
            first
              | exact (Blk.new _ _ _).row _
              | exact (((Blk.new wo 118 Try.zeroCells118).drew.below hb (by simp)).row _)
        case rest =>
          obtain ⟨g2, rfl, rfl, hg1, hb1, hown1'⟩ := hcut
          clear hown0
          clear hbo hzo
          obtain ⟨wo, rfl⟩ : ∃ y : World, y = wc := ⟨_, rfl⟩
          have hbo : Below W.heap.size W wo := hb1
          have hzo : W.heap.size ≤ wo.heap.size := hbo.size
          clear hb1
          have hown0 := hown1'
          clear hown1'
          have gs : wo.cell? ⟨g2, 1, none⟩ = some (.bool eq.star) := (hg1.cell 1).trans (elArr_star eq)
          clear hg1
          go_upto_region 6 with fail
          go_cut [48] (fun t wx => t = .bool (okq && eq.star) ∧ wo = wx)
          case first =>
            cases okq
            · go_wp2_with fail
              go_meet
              case rel => exact ⟨rfl, rfl⟩
            · go_wp2_with fail
              go_meet
              case rel => exact ⟨by simp, rfl⟩
          case rest =>
            obtain ⟨rfl, rfl⟩ := hcut
            clear gs
            generalize (okq && eq.star) = st2 at *
            go_upto_if 48 with fail
            go_cut [5] (fun s5 wx => ∃ v, v = s5 ∧ Poss wx W.heap.size v (l1 ++ if st2 then [G.skip2 x] else []) ∧ Below W.heap.size W wx)
            case first =>
              cases st2
              · go_wp2_with fail
                go_meet
                case rel => exact ⟨_, rfl, by simpa [Poss] using hown0, hbo⟩
              · go_wp2_with fail
                go_region_held3 (fun w' => Below W.heap.size W w' ∧ w'.cell? ⟨sb, 0, none⟩ = some vp ∧ w'.cell? ⟨sb, 1, none⟩ = some vq ∧ w'.cell? ⟨w.heap.size, 0, none⟩ = some (.int .i64 x.a) ∧ w'.cell? ⟨w.heap.size, 1, none⟩ = some (.int .i64 x.i) ∧ w'.cell? ⟨w.heap.size, 2, none⟩ = some (.int .i64 x.b) ∧ w'.cell? ⟨w.heap.size, 3, none⟩ = some (.int .i64 x.j))
              ((go_split_ands; first
            | exact KEEP'.out _ (Below.drew (by assumption))
            | exact KEEP'.out _ (Below.trans (by assumption) (hb.mono (Below.size (by assumption))))
            | exact KEEP'.out _ (Below.alloc (by assumption) (Below.size (by assumption)) _)
            | exact KEEP'.out _ (below_row (by assumption) (by first | exact hz2 | exact hzo) _)
            | exact KEEP'.out _ (Below.grown (by assumption) hgrow (Below.size (by assumption)) (fun k hk => ((World.ownsRow.lt hown1 k hk)).1))))
              (first
                | (go_at_call 87; refine (next_any x.b x.j _ (by omega)).mono ?_; unfold plV; rintro e w' ⟨rfl, hb⟩; have hown1 := own_below (w := wo.drew) hown0 hb; have hz3 : wo.heap.size ≤ w'.heap.size := hb.size; clear hown0)
                | (refine step_append_lies (w'.alloc (.cells #[.int .i64 (G.skip2 x).a, .int .i64 (G.skip2 x).i, .int .i64 (G.skip2 x).b, .int .i64 (G.skip2 x).j] 86)) (by rfl) (.tmp 49) (.tmp 56) 82 (by rfl) W.heap.size 86 i0 _ 4 32 Try.underlying82 hi0 hz0 hz1 hz2' rfl (by omega) v l1.length (l1.flatMap posL) (by simp [Act.eval]) (hown1.alloc _) ⟨w'.heap.size, 0, none⟩ 1 1 (posL (G.skip2 x)) (by simp [Act.eval]) rfl (pos_new w' (G.skip2 x)) (posL_one (G.skip2 x)) (by omega) (by unfold maxLen; omega) (by omega) (by simp; omega) (w'.heap.size + 1) (by simp) ?_; intro gg cap w1 hown2 hgrow hat hlt1)
                | fail)
                all_goals go_wp2_with fail
                all_goals go_meet
                case rel =>
                  refine ⟨_, rfl, ?_, by go_split_ands; assumption⟩
                  unfold Poss
                  rw [if_pos (by trivial), List.length_append, List.length_singleton, ← flat_snoc]
                  exact hown2
            case rest =>
              obtain ⟨v2, rfl, hv1, hb1⟩ := hcut
              have hv1' := Lib.hid hv1; clear hv1
              have hb1' := Lib.hid hb1; clear hb1 hbo hown0 hzo hln
              clear KEEP' HA' HC' hi0 hz0 hz1 hz2'
              go_wp2_with fail
              go_ret
              refine ⟨v2, rfl, ?_, hB'.out.trans (hb1'.out.mono (Nat.le_of_lt hsz))⟩
              have hl := hl1'.out
              unfold G.skipsOf
              rw [hst1'.out, hst2'.out, ← hl]
              exact own_mono hv1'.out (Nat.le_of_lt hsz)

end Go.Proofs.Ytfihccfjboopiaa
