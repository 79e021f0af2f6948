/-
  THE WALK of glob's (*search).cost.
-/
import Derived.Test.YtfihccfjboopiaaComCosts
namespace Go.Proofs.Ytfihccfjboopiaa
open Go.RowKit Go.Maps

set_option maxHeartbeats 400000 in
theorem less_any (n best : Int) (bb : Nat) (w : World) (h : Blk w bb 3 #[.int .i64 best]) :
    Calls Try.prog 67 #[.int .i64 n, .pointer (some ⟨bb, 0, none⟩)] w fun e w' => e = .returned (.tuple #[]) ∧ Blk w' bb 3 #[.int .i64 (G.lessI best n)] ∧ Only (fun k => k = bb) w w' := by
  have c0 : w.cell? ⟨bb, 0, none⟩ = some (.int .i64 best) := (h.cell 0).trans rfl
  have f0 := h.frozen 0
  have e1 := h.store 0 (.int .i64 n)
  have e2 := (Only.refl (fun k => k = bb) w).setCell (p := ⟨bb, 0, none⟩) (.inl rfl) (.int .i64 n)
  have h' := Lib.hid h; clear h
  have e1' := Lib.hid e1; clear e1
  have e2' := Lib.hid e2; clear e2
  by_cases h1 : 0 ≤ n
  · have b1 : decide ((0 : Int) ≤ n) = true := by simpa using h1
    by_cases h2 : best < 0
    · have hr : G.lessI best n = n := by unfold G.lessI; rw [if_pos ⟨h1, .inl h2⟩]
      have hr' := Lib.hid hr; clear hr
      go_enter Try.func67, Try.ntmps67
      go_wp2
      go_end0
      exact ⟨rfl, by rw [hr'.out]; exact e1'.out, e2'.out⟩
    · by_cases h3 : n < best
      · have hr : G.lessI best n = n := by unfold G.lessI; rw [if_pos ⟨h1, .inr h3⟩]
        have hr' := Lib.hid hr; clear hr
        go_enter Try.func67, Try.ntmps67
        go_wp2
        go_end0
        exact ⟨rfl, by rw [hr'.out]; exact e1'.out, e2'.out⟩
      · have hr : G.lessI best n = best := by unfold G.lessI; rw [if_neg (by omega)]
        have hr' := Lib.hid hr; clear hr
        go_enter Try.func67, Try.ntmps67
        go_wp2
        go_end0
        exact ⟨rfl, by rw [hr'.out]; exact h'.out, Only.refl _ _⟩
  · have hr : G.lessI best n = best := by unfold G.lessI; rw [if_neg (by omega)]
    have hr' := Lib.hid hr; clear hr
    go_enter Try.func67, Try.ntmps67
    go_wp2
    go_end0
    exact ⟨rfl, by rw [hr'.out]; exact h'.out, Only.refl _ _⟩

/-- A slice of pairs: where its cells are. -/
theorem poss_form {w : World} {B : Nat} {v : Value} {xs : List G.Pos} (h : Poss w B v xs) : ∃ p cap, v = .slice p xs.length cap ∧ ∀ (k : Nat) (x : G.Pos), xs[k]? = some x → ∃ g, p = some ⟨g, 0, none⟩ := by
  by_cases hl : 0 < xs.length
  · obtain ⟨g, cap, hv, _, _⟩ := World.ownsRow.form h hl
    exact ⟨_, cap, hv, fun _ _ _ => ⟨g, rfl⟩⟩
  · have h0 : xs = [] := List.eq_nil_of_length_eq_zero (by omega)
    subst h0
    rcases h with ⟨_, ⟨rfl, _⟩ | ⟨g, cap, cur, rfl, _⟩⟩
    · exact ⟨none, 0, rfl, fun _ _ h => by cases h⟩
    · exact ⟨_, cap, rfl, fun _ _ h => by cases h⟩
theorem flat_pos_get : ∀ (xs : List G.Pos) (k i : Nat) (x : G.Pos), xs[k]? = some x → i < 4 → (xs.flatMap posL)[k * 4 + i]? = (posL x)[i]?
  | [], k, i, x, h, _ => by cases h
  | a :: l, 0, i, x, h, hi => by
    simp at h
    subst h
    rw [List.flatMap_cons, List.getElem?_append_left (by simp [posL]; omega)]
    simp
  | a :: l, k + 1, i, x, h, hi => by
    rw [List.flatMap_cons, List.getElem?_append_right (by simp [posL]; omega)]
    have := flat_pos_get l k i x (by simpa using h) hi
    rw [show (k + 1) * 4 + i - (posL a).length = k * 4 + i from by simp [posL]; omega]
    exact this
theorem poss_cell {w : World} {B g cap : Nat} {xs : List G.Pos} (h : Poss w B (.slice (some ⟨g, 0, none⟩) xs.length cap) xs) {k : Nat} {x : G.Pos} (hk : xs[k]? = some x) :
    w.cell? ⟨g, k * 4, none⟩ = some (.int .i64 x.a) ∧ w.cell? ⟨g, k * 4 + 1, none⟩ = some (.int .i64 x.i) ∧ w.cell? ⟨g, k * 4 + 2, none⟩ = some (.int .i64 x.b) ∧ w.cell? ⟨g, k * 4 + 3, none⟩ = some (.int .i64 x.j) := by
  have hl : k < xs.length := (List.getElem?_eq_some_iff.1 hk).1
  have c : ∀ i, i < 4 → w.cell? ⟨g, k * 4 + i, none⟩ = (posL x)[i]? := fun i hi => by
    rw [World.ownsRow.cellAt h (k * 4 + i) (by omega)]
    exact flat_pos_get xs k i x hk hi
  exact ⟨c 0 (by omega), c 1 (by omega), c 2 (by omega), c 3 (by omega)⟩
theorem poss_blk {w : World} {B g : Nat} {v : Value} {xs : List G.Pos} {cs : Array Value} (h : Poss w B v xs) (hb : Blk w g 3 cs) {w' : World} (ho : Only (fun k => k = g) w w') : Poss w' B v xs :=
  own_only h ho fun k hk e => own_blk_ne' h hb (by decide) (by rw [hk, e])
theorem only_two {S T : Nat → Prop} {a w w' : World} (h : Only S a w) (k : Only T w w') (hT : ∀ i, T i → a.heap.size ≤ i) : Only S a w' :=
  h.step k fun i hi => .inr (hT i hi)

set_option maxRecDepth 100000 in
set_option maxHeartbeats 4000000 in
theorem cost_any (P Q : List (List G.El)) (B sb mb : Nat) (vp vq : Value) (hf : Few P Q) : ∀ (m : Nat) (x : G.Pos) (K : G.Pos → Bool) (w : World), G.muOf P Q x ≤ m → G.InP P Q x → Sch w B sb mb vp vq P Q → Costs w mb P Q K →
    Calls Try.prog 46 #[.pointer (some ⟨sb, 0, none⟩), posV x] w (CostPost P Q mb K x w) := by
  intro m
  induction m using Nat.strongRecOn with
  | ind m ih =>
  intro x K w hmu hx hs hk
  have hsm := hf.small hx
  obtain ⟨gp, capp, up, rfl, hcp, hrp⟩ := hs.ap.form (getD_some hx.1)
  obtain ⟨gq, capq, uq, rfl, hcq, hrq⟩ := hs.aq.form (getD_some hx.2.1)
  obtain ⟨pp, cpp, rfl⟩ := hrp.len
  obtain ⟨pq, cpq, rfl⟩ := hrq.len
  have hgp := World.block_lt_of_cell? w _ hcp
  have hgq := World.block_lt_of_cell? w _ hcq
  have ia := hx.1
  have ib := hx.2.1
  clear hrp hrq
  obtain ⟨c, hlook, hval⟩ := hk.look hx hsm
  have hsb := hs.blk.lt
  have hmb := hk.lt
  have hsm2 := hf.sm hx
  have hpos := hf.pos hx
  unfold posV
  go_enter Try.func46, Try.ntmps46
  go_wp2_with fail
  have hB0 : Below w.heap.size w (w.alloc (.cells (posA x) 86)) := (Below.refl _ _).alloc (Nat.le_refl _) _
  have hO0 : Only (fun k => k = mb) w (w.alloc (.cells (posA x) 86)) := (Only.refl _ _).alloc _
  have hS0 := hs.below hB0
  have hK0 := hk.heap (hB0.block mb hmb)
  have hX0 := Blk.new w 86 (posA x)
  have hz0' : (w.alloc (.cells (posA x) 86)).heap.size = w.heap.size + 1 := by simp
  unfold posA at hB0 hO0 hS0 hK0 hX0 hz0'
  have hcp1 := (hB0.cell (p := ⟨gp, x.a, none⟩) hgp).trans hcp
  have hcq1 := (hB0.cell (p := ⟨gq, x.b, none⟩) hgq).trans hcq
  clear hlook hval hcp hcq
  generalize (w.alloc (.cells #[.int .i64 x.a, .int .i64 x.i, .int .i64 x.b, .int .i64 x.j] 86)) = W at *
  obtain ⟨c, hlook, hval⟩ := hK0.look hx hsm
  have hsz : w.heap.size < W.heap.size := by omega
  have c2 : W.cell? ⟨sb, 2, none⟩ = some (.map (some mb)) := (hS0.blk.cell 2).trans rfl
  have x0 : W.cell? ⟨w.heap.size, 0, none⟩ = some (.int .i64 x.a) := (hX0.cell 0).trans rfl
  have x1 : W.cell? ⟨w.heap.size, 1, none⟩ = some (.int .i64 x.i) := (hX0.cell 1).trans rfl
  have x2 : W.cell? ⟨w.heap.size, 2, none⟩ = some (.int .i64 x.b) := (hX0.cell 2).trans rfl
  have x3 : W.cell? ⟨w.heap.size, 3, none⟩ = some (.int .i64 x.j) := (hX0.cell 3).trans rfl
  have hl2 : ∀ nq, (Instr.lookup 79 (.map (some mb)) (.agg #[.int .i64 x.a, .int .i64 x.i, .int .i64 x.b, .int .i64 x.j]) true).run Try.prog (W.drewN nq) = .ok (.tuple #[.int .i64 c, .bool (K x)]) (W.drewN nq) := fun nq => hlook _ (by simp)
  have hs' := Lib.hid hs; clear hs
  have hk' := Lib.hid hk; clear hk hlook
  have hO' := Lib.hid hO0; clear hO0 hB0
  have hS' := Lib.hid hS0; clear hS0
  have hK' := Lib.hid hK0; clear hK0
  have hX' := Lib.hid hX0; clear hX0
  have hz' := Lib.hid hz0'; clear hz0'
  have hval' := Lib.hid hval; clear hval
  have ih' := Lib.hid ih; clear ih
  have hx' := Lib.hid hx; clear hx
  have hsm' := Lib.hid hsm; clear hsm
  cases hKx : K x with
  | true =>
    have hc := hval'.out hKx
    rw [hKx] at hl2
    have hc' := Lib.hid hc; clear hc
    have hKx' := Lib.hid hKx; clear hKx
    go_quiet (fail)
    go_wp2_with fail
    go_ret
    exact ⟨by rw [← hc'.out]; rfl, hO'.out.drewN _, K, hK'.out.heap (by simp), fun y h => .inl h⟩
  | false =>
    rw [hKx] at hl2
    have hKx' := Lib.hid hKx; clear hKx hval'
    go_quiet (fail)
    have d1 := hO'.out.drewN nq
    have d2 : Sch (W.drewN nq) B sb mb (.slice (some ⟨gp, 0, none⟩) P.length capp) (.slice (some ⟨gq, 0, none⟩) Q.length capq) P Q := hS'.out.below (below_drewN (Below.refl _ _) nq)
    have d3 : Costs (W.drewN nq) mb P Q K := hK'.out.heap (by simp)
    have d4 := hX'.out.drewN nq
    have d5 : w.heap.size < (W.drewN nq).heap.size := by simpa using hsz
    have d6 : (W.drewN nq).cell? ⟨gp, x.a, none⟩ = some (.slice pp (P.getD x.a []).length cpp) := hcp1
    have d7 : (W.drewN nq).cell? ⟨gq, x.b, none⟩ = some (.slice pq (Q.getD x.b []).length cpq) := hcq1
    clear hO' hS' hK' hX' hz' hsz hcp1 hcq1 c2 x0 x1 x2 x3 hl2
    generalize W.drewN nq = Wd at *
    have hlt : Wd.heap.size < Wd.heap.size + 1 := by omega
    -- the variable 'best'
    have e1 := d1.alloc (.cells #[.int .i64 (-1)] 3)
    have e2 : Sch (Wd.alloc (.cells #[.int .i64 (-1)] 3)) B sb mb (.slice (some ⟨gp, 0, none⟩) P.length capp) (.slice (some ⟨gq, 0, none⟩) Q.length capq) P Q := d2.below ((Below.refl _ _).alloc (Nat.le_refl _) _)
    have e3 : Costs (Wd.alloc (.cells #[.int .i64 (-1)] 3)) mb P Q K := d3.heap (Below.heap_alloc _ _ _ d3.lt)
    have e4 := d4.alloc (.cells #[.int .i64 (-1)] 3)
    have e5 := Blk.new Wd 3 #[.int .i64 (-1)]
    have e6 := (cell_later ((Below.refl Wd.heap.size Wd).alloc (Nat.le_refl _) (.cells #[.int .i64 (-1)] 3)) d6)
    have e7 := (cell_later ((Below.refl Wd.heap.size Wd).alloc (Nat.le_refl _) (.cells #[.int .i64 (-1)] 3)) d7)
    clear d1 d2 d3 d4 d6 d7
    have e1' := Lib.hid e1; clear e1
    have e2' := Lib.hid e2; clear e2
    have e3' := Lib.hid e3; clear e3
    have e4' := Lib.hid e4; clear e4
    have e5' := Lib.hid e5; clear e5
    have e6' := Lib.hid e6; clear e6
    have e7' := Lib.hid e7; clear e7
    go_wp2_with fail
    have hbb : Wd.heap.size < (Wd.alloc (.cells #[.int .i64 (-1)] 3)).heap.size := by simp
    generalize hbe : Wd.heap.size = bb at *
    generalize (Wd.alloc (.cells #[.int .i64 (-1)] 3)) = We at *
    clear hbe
    have c0 : We.cell? ⟨sb, 0, none⟩ = some (.slice (some ⟨gp, 0, none⟩) P.length capp) := (e2'.out.blk.cell 0).trans rfl
    have c1 : We.cell? ⟨sb, 1, none⟩ = some (.slice (some ⟨gq, 0, none⟩) Q.length capq) := (e2'.out.blk.cell 1).trans rfl
    have x0 : We.cell? ⟨w.heap.size, 0, none⟩ = some (.int .i64 x.a) := (e4'.out.cell 0).trans rfl
    have x1 : We.cell? ⟨w.heap.size, 1, none⟩ = some (.int .i64 x.i) := (e4'.out.cell 1).trans rfl
    have x2 : We.cell? ⟨w.heap.size, 2, none⟩ = some (.int .i64 x.b) := (e4'.out.cell 2).trans rfl
    have x3 : We.cell? ⟨w.heap.size, 3, none⟩ = some (.int .i64 x.j) := (e4'.out.cell 3).trans rfl
    have h6 := e6'.out
    have h7 := e7'.out
    have b1 : (0 : Int) ≤ (x.a : Int) := by omega
    have b2 : (x.a : Int) < (P.length : Int) := by omega
    have b3 : (0 : Int) ≤ (x.b : Int) := by omega
    have b4 : (x.b : Int) < (Q.length : Int) := by omega
    have hsmE : Small ⟨x.a, (P.getD x.a []).length, x.b, (Q.getD x.b []).length⟩ := by
      have p1 := getD_len hf.ep x.a
      have p2 := getD_len hf.eq x.b
      refine ⟨?_, ?_, ?_, ?_⟩ <;> dsimp only <;> omega
    obtain ⟨lp, hlp⟩ : ∃ y, y = (P.getD x.a []).length := ⟨_, rfl⟩
    obtain ⟨lq, hlq⟩ : ∃ y, y = (Q.getD x.b []).length := ⟨_, rfl⟩
    rw [← hlp] at h6
    rw [← hlq] at h7
    have hlp' := Lib.hid hlp; clear hlp
    have hlq' := Lib.hid hlq; clear hlq hsmE
    go_cut [56] (fun t wx => t = .bool (decide (x.i = lp) && decide (x.j = lq)) ∧ ∃ n, wx = We.drewN n)
    case first =>
      by_cases hi : x.i = lp
      · have hi1 : ((x.i : Int) == (lp : Int)) = true := by rw [beq_iff_eq]; omega
        by_cases hj : x.j = lq
        · have hj1 : ((x.j : Int) == (lq : Int)) = true := by rw [beq_iff_eq]; omega
          have hi' := Lib.hid hi; clear hi
          have hj' := Lib.hid hj; clear hj
          go_quiet (fail)
          go_wp2_with fail
          go_meet
          case rel => exact ⟨by rw [decide_eq_true hi'.out, decide_eq_true hj'.out]; rfl, _, rfl⟩
        · have hj1 : ((x.j : Int) == (lq : Int)) = false := by rw [beq_eq_false_iff_ne]; omega
          have hi' := Lib.hid hi; clear hi
          have hj' := Lib.hid hj; clear hj
          go_quiet (fail)
          go_wp2_with fail
          go_meet
          case rel => exact ⟨by rw [decide_eq_true hi'.out, decide_eq_false hj'.out]; rfl, _, rfl⟩
      · have hi1 : ((x.i : Int) == (lp : Int)) = false := by rw [beq_eq_false_iff_ne]; omega
        have hi' := Lib.hid hi; clear hi
        go_quiet (fail)
        go_wp2_with fail
        go_meet
        case rel => exact ⟨by rw [decide_eq_false hi'.out]; rfl, _, rfl⟩
    case rest =>
      obtain ⟨rfl, nq2, rfl⟩ := hcut
      have d1 := e1'.out.drewN nq2
      have d3 : Costs (We.drewN nq2) mb P Q K := e3'.out.heap (by simp)
      have d4 := e4'.out.drewN nq2
      have d5' := e5'.out.drewN nq2
      clear e1' e2' e3' e4' e5' e6' e7' c0 c1 x0 x1 x2 x3 h6 h7 hbb
      obtain ⟨b0, hb0⟩ : ∃ y, y = (decide (x.i = lp) && decide (x.j = lq)) := ⟨_, rfl⟩
      rw [← hb0]
      have hb0' := Lib.hid hb0; clear hb0
      generalize We.drewN nq2 = wo at *
      have d1' := Lib.hid d1; clear d1
      have d3' := Lib.hid d3; clear d3
      have d4' := Lib.hid d4; clear d4
      have e5 := Lib.hid d5'; clear d5'
      go_upto_if 56 with fail
      go_cut [] (fun wx => Only (fun k => k = mb) w wx ∧ Costs wx mb P Q K ∧ Blk wx w.heap.size 86 #[.int .i64 x.a, .int .i64 x.i, .int .i64 x.b, .int .i64 x.j] ∧ Blk wx bb 3 #[.int .i64 (if b0 then 0 else -1)])
      case first =>
        cases b0
        · go_wp2_with fail
          go_meet
          case rel => exact ⟨d1'.out, d3'.out, d4'.out, e5.out⟩
        · have m0 := (e5.out.cell 0).trans rfl
          have f0 := e5.out.frozen 0
          go_wp2_with fail
          go_meet
          case rel =>
            refine ⟨d1'.out.setCell (.inr (Nat.le_of_lt d5)) _, d3'.out.only ((Only.refl (fun k => k = bb) _).setCell (.inl rfl) _) (fun e => blk_map e5.out d3'.out.isMap e.symm), d4'.out.other (by simp <;> omega) _, ?_⟩
            have := e5.out.store 0 (.int .i64 0)
            simpa using this
      case rest =>
        obtain ⟨a1, a3, a4, a5⟩ := hcut
        clear d1' d3' d4' e5
        obtain ⟨wo, rfl⟩ : ∃ y : World, y = wc := ⟨_, rfl⟩
        obtain ⟨best, hbest⟩ : ∃ y : Int, y = (if b0 then 0 else -1) := ⟨_, rfl⟩
        rw [← hbest] at a5
        have hbest' := Lib.hid hbest; clear hbest
        have hSk := skips_any P Q B sb mb (.slice (some ⟨gp, 0, none⟩) P.length capp) (.slice (some ⟨gq, 0, none⟩) Q.length capq) x wo (hs'.out.only hk'.out.isMap a1) hx'.out hsm2
        unfold posV at hSk
        have x0 : wo.cell? ⟨w.heap.size, 0, none⟩ = some (.int .i64 x.a) := (a4.cell 0).trans rfl
        have x1 : wo.cell? ⟨w.heap.size, 1, none⟩ = some (.int .i64 x.i) := (a4.cell 1).trans rfl
        have x2 : wo.cell? ⟨w.heap.size, 2, none⟩ = some (.int .i64 x.b) := (a4.cell 2).trans rfl
        have x3 : wo.cell? ⟨w.heap.size, 3, none⟩ = some (.int .i64 x.j) := (a4.cell 3).trans rfl
        have hSk' := Lib.hid hSk; clear hSk
        have a1' := Lib.hid a1; clear a1
        have a3' := Lib.hid a3; clear a3
        have a4' := Lib.hid a4; clear a4
        have a5' := Lib.hid a5; clear a5
        obtain ⟨ys, hys⟩ : ∃ y, y = G.skipsOf P Q x := ⟨_, rfl⟩
        have hyl : ys.length ≤ 2 := by
          rw [hys]
          unfold G.skipsOf
          rw [List.length_append]
          split <;> split <;> simp
        have hys' := Lib.hid hys; clear hys
        go_wp2_with (go_at_call 68; refine hSk'.out.mono ?_; rintro e w1 ⟨v, rfl, hpo, hbl⟩; rw [← hys'.out] at hpo; obtain ⟨p, cap, rfl, hpf⟩ := poss_form hpo; have hpo' := Lib.hid hpo; clear hpo; have hbl' := Lib.hid hbl; clear hbl; have hpf' := Lib.hid hpf; clear hpf)
        have g1 : Only (fun k => k = mb) w w1 := a1'.out.step (S' := fun _ => False) (Only.of_below hbl'.out fun k h1 h2 => by omega) fun i hi => hi.elim
        have g3 : Costs w1 mb P Q K := a3'.out.heap (hbl'.out.block mb a3'.out.lt)
        have g4 := a4'.out.below hbl'.out a4'.out.lt
        have g5 := a5'.out.below hbl'.out a5'.out.lt
        clear a1' a3' a4' a5' hbl' x0 x1 x2 x3 hSk'
        have g1' := Lib.hid g1; clear g1
        have g3' := Lib.hid g3; clear g3
        have g4' := Lib.hid g4; clear g4
        have g5' := Lib.hid g5; clear g5
        go_loopw [62] (fun t62 wr => ∃ k : Nat, k ≤ ys.length ∧ t62 = .int .i64 k ∧ Only (fun k => k = mb) w wr ∧ (∃ K', Costs wr mb P Q K' ∧ ∀ y, K' y = true → K y = true ∨ G.muOf P Q y < G.muOf P Q x) ∧
          Blk wr w.heap.size 86 #[.int .i64 x.a, .int .i64 x.i, .int .i64 x.b, .int .i64 x.j] ∧ Blk wr bb 3 #[.int .i64 ((ys.take k).foldl (fun best y => G.lessI best (G.toI (G.cOf P Q y))) best)] ∧ Poss wr wo.heap.size (.slice p ys.length cap) ys) (fun t62 _ => ys.length - (intOf t62).toNat)
        case atStart => exact ⟨0, by omega, rfl, g1'.out, ⟨K, g3'.out, fun y h => .inl h⟩, g4'.out, g5'.out, hpo'.out⟩
        case round =>
          clear g1' g3' g4' g5' hpo'
          obtain ⟨k, hkl, rfl, r1, ⟨K', r3, r3b⟩, r4, r5, r6⟩ := hrel
          by_cases hlt2 : k < ys.length
          · obtain ⟨y, hy⟩ : ∃ y, ys[k]? = some y := ⟨_, List.getElem?_eq_getElem hlt2⟩
            obtain ⟨g, rfl⟩ := hpf'.out k y hy
            obtain ⟨y0, y1, y2, y3⟩ := poss_cell r6 hy
            have hyin : y ∈ G.skipsOf P Q x := by rw [← hys'.out]; exact List.mem_of_getElem? hy
            obtain ⟨iny, _, muy⟩ := G.skip_of hx'.out hyin
            have htk : ys.take (k + 1) = ys.take k ++ [y] := by rw [List.take_add_one, hy]; rfl
            have kk0 : (0 : Int) ≤ (k : Int) := by omega
            have kk1 : (k : Int) < (ys.length : Int) := by omega
            have hcall : ∀ W, Only (fun k => k = mb) w W → Costs W mb P Q K' → Calls Try.prog 46 #[.pointer (some ⟨sb, 0, none⟩), .agg #[.int .i64 y.a, .int .i64 y.i, .int .i64 y.b, .int .i64 y.j]] W (CostPost P Q mb K' y W) := fun W hW hC =>
              ih'.out _ (Nat.lt_of_lt_of_le muy hmu) y K' W (Nat.le_refl _) iny (hs'.out.only hk'.out.isMap hW) hC
            have hcall' := Lib.hid hcall; clear hcall
            have r1' := Lib.hid r1; clear r1
            have r3' := Lib.hid r3; clear r3
            have r3b' := Lib.hid r3b; clear r3b
            have r4' := Lib.hid r4; clear r4
            have r5' := Lib.hid r5; clear r5
            have r6' := Lib.hid r6; clear r6
            have hy' := Lib.hid hy; clear hy
            have hyin' := Lib.hid hyin; clear hyin
            have htk' := Lib.hid htk; clear htk
            have iny' := Lib.hid iny; clear iny
            go_wp2_with fail
            refine (hcall'.out _ (r1'.out.alloc _) (r3'.out.heap (Below.heap_alloc _ _ _ r3'.out.lt))).mono ?_
            rintro e w2 ⟨rfl, q1, K2, q3, q3b⟩
            have isM := r3'.out.isMap
            have isM2 : ∃ es c, (wr.alloc (.cells #[.int .i64 y.a, .int .i64 y.i, .int .i64 y.b, .int .i64 y.j] 86)).heap[mb]? = some (.map es c) := by
              rw [Below.heap_alloc _ _ _ r3'.out.lt]; exact isM
            have v4 := (r4'.out.alloc (.cells #[.int .i64 y.a, .int .i64 y.i, .int .i64 y.b, .int .i64 y.j] 86)).only q1 (fun e => blk_map r4'.out isM e)
            have v5 := (r5'.out.alloc (.cells #[.int .i64 y.a, .int .i64 y.i, .int .i64 y.b, .int .i64 y.j] 86)).only q1 (fun e => blk_map r5'.out isM e)
            have v6 : Poss w2 wo.heap.size (.slice (some ⟨g, 0, none⟩) ys.length cap) ys := own_map (World.ownsRow.alloc r6'.out (.cells #[.int .i64 y.a, .int .i64 y.i, .int .i64 y.b, .int .i64 y.j] 86)) isM2 q1
            have v1 : Only (fun k => k = mb) w w2 := (r1'.out.alloc _).trans q1
            have v3b : ∀ z, K2 z = true → K z = true ∨ G.muOf P Q z < G.muOf P Q x := fun z hz => by
              rcases q3b z hz with h | h
              · exact r3b'.out z h
              · exact .inr (Nat.lt_of_le_of_lt h muy)
            clear isM isM2 q1 q3b r1' r3' r3b' r4' r5' r6' hcall'
            have q3' := Lib.hid q3; clear q3
            have v1' := Lib.hid v1; clear v1
            have v3b' := Lib.hid v3b; clear v3b
            have v4' := Lib.hid v4; clear v4
            have v5' := Lib.hid v5; clear v5
            have v6' := Lib.hid v6; clear v6
            go_wp2_with fail
            refine (less_any _ _ bb _ v5'.out).mono ?_
            rintro e w3 ⟨rfl, z5, z1⟩
            have y1 := v1'.out.step z1 (fun i hi => .inr (by rw [hi]; omega))
            have y3 := q3'.out.only z1 (fun e => blk_map v5'.out q3'.out.isMap e.symm)
            have y4 := v4'.out.only z1 (by omega)
            have y6 := poss_blk v6'.out v5'.out z1
            have y1' := Lib.hid y1; clear y1
            have y3' := Lib.hid y3; clear y3
            have y4' := Lib.hid y4; clear y4
            have y6' := Lib.hid y6; clear y6
            have z5' := Lib.hid z5; clear z5 z1 q3' v1' v4' v5' v6'
            go_wp2_with fail
            go_roundw
            case rel =>
              refine ⟨k + 1, by omega, by go_num, y1'.out, ⟨K2, y3'.out, v3b'.out⟩, y4'.out, ?_, y6'.out⟩
              rw [htk'.out, List.foldl_append]
              exact z5'.out
            case measure => simp [intOf]; omega
          · obtain rfl : k = ys.length := by omega
            rw [List.take_length] at r5
            obtain ⟨best1, hbest1⟩ : ∃ z, z = ys.foldl (fun best y => G.lessI best (G.toI (G.cOf P Q y))) best := ⟨_, rfl⟩
            rw [← hbest1] at r5
            have hbest1' := Lib.hid hbest1; clear hbest1
            have x0 : wr.cell? ⟨w.heap.size, 0, none⟩ = some (.int .i64 x.a) := (r4.cell 0).trans rfl
            have x1 : wr.cell? ⟨w.heap.size, 1, none⟩ = some (.int .i64 x.i) := (r4.cell 1).trans rfl
            have x2 : wr.cell? ⟨w.heap.size, 2, none⟩ = some (.int .i64 x.b) := (r4.cell 2).trans rfl
            have x3 : wr.cell? ⟨w.heap.size, 3, none⟩ = some (.int .i64 x.j) := (r4.cell 3).trans rfl
            have hSt := step_any P Q B sb mb (.slice (some ⟨gp, 0, none⟩) P.length capp) (.slice (some ⟨gq, 0, none⟩) Q.length capq) x wr (hs'.out.only hk'.out.isMap r1) hx'.out hsm2
            unfold posV at hSt
            have kkk : ¬ ((ys.length : Int) < (ys.length : Int)) := by omega
            have hSt' := Lib.hid hSt; clear hSt
            have r1' := Lib.hid r1; clear r1
            have r3' := Lib.hid r3; clear r3
            have r3b' := Lib.hid r3b; clear r3b
            have r4' := Lib.hid r4; clear r4
            have r5' := Lib.hid r5; clear r5 r6
            go_wp2_with fail
            refine hSt'.out.mono ?_
            rintro e w2 ⟨yn, bs, rfl, hbl, himp⟩
            have g1 : Only (fun k => k = mb) w w2 := r1'.out.step (S' := fun _ => False) (Only.of_below hbl fun k h1 h2 => by omega) fun i hi => hi.elim
            have g3 : Costs w2 mb P Q K' := r3'.out.heap (hbl.block mb r3'.out.lt)
            have g4 := r4'.out.below hbl r4'.out.lt
            have g5 := r5'.out.below hbl r5'.out.lt
            clear r1' r3' r4' r5' hbl x0 x1 x2 x3 hSt'
            obtain ⟨ok, hok⟩ : ∃ z, z = G.okOf P Q x := ⟨_, rfl⟩
            rw [← hok] at himp
            rw [← hok]
            have hok' := Lib.hid hok; clear hok
            have himp' := Lib.hid himp; clear himp
            unfold posV
            have TB : Blk ((w2.alloc (.cells #[.int .i64 yn.a, .int .i64 yn.i, .int .i64 yn.b, .int .i64 yn.j] 86)).alloc (.cells Try.zeroCells116 116)) (w2.heap.size + 1) 116 (setArr G.none') := by rw [zero_set]; exact Blk.new_ _ _ _ (by simp)
            have TB' := Lib.hid TB; clear TB
            have h1 := ((g1.alloc (.cells #[.int .i64 yn.a, .int .i64 yn.i, .int .i64 yn.b, .int .i64 yn.j] 86)).alloc (.cells Try.zeroCells116 116)).setRow (g := w2.heap.size + 1) (.inr (by have := g1.size; omega)) (setArr bs)
            have h3 := ((g3.only ((((Only.refl (fun _ => False) w2).alloc (.cells #[.int .i64 yn.a, .int .i64 yn.i, .int .i64 yn.b, .int .i64 yn.j] 86)).alloc (.cells Try.zeroCells116 116)).setRow (g := w2.heap.size + 1) (.inr (by omega)) (setArr bs)) (fun h => h)))
            have h4 := ((g4.alloc (.cells #[.int .i64 yn.a, .int .i64 yn.i, .int .i64 yn.b, .int .i64 yn.j] 86)).alloc (.cells Try.zeroCells116 116)).rowOther (g' := w2.heap.size + 1) (by have := g4.lt; omega) (setArr bs)
            have h5 := ((g5.alloc (.cells #[.int .i64 yn.a, .int .i64 yn.i, .int .i64 yn.b, .int .i64 yn.j] 86)).alloc (.cells Try.zeroCells116 116)).rowOther (g' := w2.heap.size + 1) (by have := g5.lt; omega) (setArr bs)
            have h6 : Blk (((w2.alloc (.cells #[.int .i64 yn.a, .int .i64 yn.i, .int .i64 yn.b, .int .i64 yn.j] 86)).alloc (.cells Try.zeroCells116 116)).setRow (w2.heap.size + 1) (setArr bs)) w2.heap.size 86 #[.int .i64 yn.a, .int .i64 yn.i, .int .i64 yn.b, .int .i64 yn.j] := ((Blk.new w2 _ _).alloc _).rowOther (by omega) _
            have h1' := Lib.hid h1; clear h1 g1
            have h3' := Lib.hid h3; clear h3 g3
            have h4' := Lib.hid h4; clear h4 g4
            have h5' := Lib.hid h5; clear h5 g5
            have h6' := Lib.hid h6; clear h6
            go_upto_if 79 with (refine wpList_store_row rfl 116 (.tmp 12) (.tmp 77) rfl (w2.heap.size + 1) (setArr bs) rfl rfl 116 (setArr G.none') TB'.out (sizeSet' _) (by rw [size_setArr, size_setArr]) (one_setArr _) ?_)
            generalize (((w2.alloc (.cells #[.int .i64 yn.a, .int .i64 yn.i, .int .i64 yn.b, .int .i64 yn.j] 86)).alloc (.cells Try.zeroCells116 116)).setRow (w2.heap.size + 1) (setArr bs)) = w4 at *
            clear TB'
            obtain ⟨cn, hcn⟩ : ∃ z, z = G.toI (G.cOf P Q (G.nextOf P Q x)) := ⟨_, rfl⟩
            have hcn1 : cn ≤ 512 := by rw [hcn]; exact hf.cost _
            have hcn2 : -1 ≤ cn := by rw [hcn]; exact G.toI_ge _
            go_cut [] (fun wx => Only (fun k => k = mb) w wx ∧ (∃ K2, Costs wx mb P Q K2 ∧ ∀ y, K2 y = true → K y = true ∨ G.muOf P Q y < G.muOf P Q x) ∧ Blk wx w.heap.size 86 #[.int .i64 x.a, .int .i64 x.i, .int .i64 x.b, .int .i64 x.j] ∧
              Blk wx bb 3 #[.int .i64 (G.lessI best1 (if ok then (if 0 ≤ cn then cn + 1 else -1) else -1))])
            case first =>
              have less0 : G.lessI best1 (-1) = best1 := by unfold G.lessI; rw [if_neg (by omega)]
              have less0' := Lib.hid less0; clear less0
              cases ok
              · go_wp2_with fail
                go_meet
                case rel => exact ⟨h1'.out, ⟨_, h3'.out, r3b'.out⟩, h4'.out, by rw [if_neg (by simp), less0'.out]; exact h5'.out⟩
              · have hyn := (himp'.out rfl).1
                have hnx := G.next_in hx'.out hok'.out.symm
                rw [← hyn] at hnx hcn
                have y0 : w4.cell? ⟨w2.heap.size, 0, none⟩ = some (.int .i64 yn.a) := (h6'.out.cell 0).trans rfl
                have y1 : w4.cell? ⟨w2.heap.size, 1, none⟩ = some (.int .i64 yn.i) := (h6'.out.cell 1).trans rfl
                have y2 : w4.cell? ⟨w2.heap.size, 2, none⟩ = some (.int .i64 yn.b) := (h6'.out.cell 2).trans rfl
                have y3 : w4.cell? ⟨w2.heap.size, 3, none⟩ = some (.int .i64 yn.j) := (h6'.out.cell 3).trans rfl
                have hcall : Calls Try.prog 46 #[.pointer (some ⟨sb, 0, none⟩), .agg #[.int .i64 yn.a, .int .i64 yn.i, .int .i64 yn.b, .int .i64 yn.j]] w4 (CostPost P Q mb K' yn w4) :=
                  ih'.out _ (Nat.lt_of_lt_of_le hnx.2 hmu) yn K' w4 (Nat.le_refl _) hnx.1 (hs'.out.only hk'.out.isMap h1'.out) h3'.out
                have hcall' := Lib.hid hcall; clear hcall
                have hnx' := Lib.hid hnx; clear hnx
                have hyn' := Lib.hid hyn; clear hyn
                have hcn' := Lib.hid hcn; clear hcn
                go_wp2_with fail
                refine hcall'.out.mono ?_
                rintro e w5 ⟨he, q1, K2, q3, q3b⟩
                rw [← hcn'.out] at he
                subst he
                have isM := h3'.out.isMap
                have v1 := h1'.out.trans q1
                have v4 := h4'.out.only q1 (fun e => blk_map h4'.out isM e)
                have v5 := h5'.out.only q1 (fun e => blk_map h5'.out isM e)
                have v3b : ∀ z, K2 z = true → K z = true ∨ G.muOf P Q z < G.muOf P Q x := fun z hz => by
                  rcases q3b z hz with h | h
                  · exact r3b'.out z h
                  · exact .inr (Nat.lt_of_le_of_lt h hnx'.out.2)
                clear isM q1 q3b h1' h3' r3b' h4' h5' h6' hcall' y0 y1 y2 y3
                have q3' := Lib.hid q3; clear q3
                have v1' := Lib.hid v1; clear v1
                have v3b' := Lib.hid v3b; clear v3b
                have v4' := Lib.hid v4; clear v4
                have v5' := Lib.hid v5; clear v5
                by_cases hc0 : 0 ≤ cn
                · go_wp2_with fail
                  refine (less_any _ _ bb _ v5'.out).mono ?_
                  rintro e w6 ⟨rfl, z5, z1⟩
                  have t1 := v1'.out.step z1 (fun i hi => .inr (by rw [hi]; omega))
                  have t3 := q3'.out.only z1 (fun e => blk_map v5'.out q3'.out.isMap e.symm)
                  have t4 := v4'.out.only z1 (by omega)
                  have t1' := Lib.hid t1; clear t1
                  have t3' := Lib.hid t3; clear t3
                  have t4' := Lib.hid t4; clear t4
                  have z5' := Lib.hid z5; clear z5 z1
                  have hc0' := Lib.hid hc0; clear hc0
                  go_wp2_with fail
                  go_meet
                  case rel => exact ⟨t1'.out, ⟨K2, t3'.out, v3b'.out⟩, t4'.out, by rw [if_pos (by simp), if_pos hc0'.out]; exact z5'.out⟩
                · go_wp2_with fail
                  go_meet
                  case rel => exact ⟨v1'.out, ⟨K2, q3'.out, v3b'.out⟩, v4'.out, by rw [if_pos (by simp), if_neg (by omega), less0'.out]; exact v5'.out⟩
            case rest =>
              obtain ⟨s1, ⟨K2, s3, s3b⟩, s4, s5⟩ := hcut
              clear h1' h3' r3b' h4' h5' h6' himp'
              have hv : G.lessI best1 (if ok then (if 0 ≤ cn then cn + 1 else -1) else -1) = G.toI (G.cOf P Q x) := by
                rw [G.cOf_eq P Q hx'.out, hbest1'.out, hok'.out, hcn, hys'.out, hbest'.out, hb0'.out, hlp'.out, hlq'.out]
                congr 2
                simp
              rw [hv] at s5
              obtain ⟨cv, hcv⟩ : ∃ z, z = G.toI (G.cOf P Q x) := ⟨_, rfl⟩
              have hcv1 : cv ≤ 512 := by rw [hcv]; exact hf.cost _
              have hcv2 : -1 ≤ cv := by rw [hcv]; exact G.toI_ge _
              rw [← hcv] at s5
              have hcv' := Lib.hid hcv; clear hcv hv hcn
              have hK2 : K2 x = false := by
                cases h : K2 x with
                | false => rfl
                | true =>
                  rcases s3b x h with h | h
                  · rw [hKx'.out] at h; cases h
                  · omega
              have hSc := hs'.out.only hk'.out.isMap s1
              have hbm : bb ≠ mb := blk_map s5 s3.isMap
              obtain ⟨n, D, ho, hh, hval, hn⟩ := s3
              have hnm : n < maxLen := by
                rw [manyN_eq] at hn
                unfold maxLen
                omega
              have c2 : wc.drew.cell? ⟨sb, 2, none⟩ = some (.map (some mb)) := (hSc.blk.cell 2).trans rfl
              have x0 : wc.drew.cell? ⟨w.heap.size, 0, none⟩ = some (.int .i64 x.a) := (s4.cell 0).trans rfl
              have x1 : wc.drew.cell? ⟨w.heap.size, 1, none⟩ = some (.int .i64 x.i) := (s4.cell 1).trans rfl
              have x2 : wc.drew.cell? ⟨w.heap.size, 2, none⟩ = some (.int .i64 x.b) := (s4.cell 2).trans rfl
              have x3 : wc.drew.cell? ⟨w.heap.size, 3, none⟩ = some (.int .i64 x.j) := (s4.cell 3).trans rfl
              have m0 : wc.drew.cell? ⟨bb, 0, none⟩ = some (.int .i64 cv) := (s5.cell 0).trans rfl
              have p1 := s1.drew
              have p5 := s5.drew
              have po : wc.drew.ownsMap Try.prog 86 (plainElem Try.prog 3) mb n D := ho
              have hh' := Lib.hid hh; clear hh
              have hval' := Lib.hid hval; clear hval
              have hn' := Lib.hid hn; clear hn
              have hK2' := Lib.hid hK2; clear hK2 s1 s4 s5 ho hSc
              have s3b' := Lib.hid s3b; clear s3b
              go_wp2_with fail
              refine still_tail 6 (by kernel_rfl) (by kernel_rfl) ?_
              generalize wc.drew = wd at *
              have p1' := Lib.hid p1; clear p1
              have p5' := Lib.hid p5; clear p5
              have po' := Lib.hid po; clear po
              simp only [List.take_succ_cons, List.take_zero, List.drop_succ_cons, List.drop_zero]
              repeat still_step
              refine wpStill_nil ?_
              go_wp2_with (at_mapUpdate; refine wpList_mapUpdate_own _ rfl _ _ _ 79 rfl 86 3 lawP Try.underlying79 _ mb n D rfl po'.out hnm _ _ (keyL x) rfl rfl (key_pos hsm'.out) (.lit (.int .i64 cv)) [] (plainElem_int Try.underlying3 (WalkArith.wf_i64 (by omega))) ?_; intro w8 hown8 hgrow8; have p8 := p5'.out.only (only_grown hgrow8) (fun e => hbm (Option.some.inj e).symm); have m8 := (p8.cell 0).trans rfl; have hown8' := Lib.hid hown8; clear hown8; have hgrow8' := Lib.hid hgrow8; clear hgrow8 p8)
              go_ret
              refine ⟨by rw [← hcv'.out]; rfl, (p1'.out.step (only_grown hgrow8'.out) fun i hi => .inl (Option.some.inj hi).symm), withK K2 x, ?_, fun y hy => ?_⟩
              · have hown := hown8'.out
                rw [hcv'.out] at hown
                exact Costs.put hf hx'.out hK2'.out po'.out.isMap hh'.out hval'.out hn'.out hown
              · simp only [withK, Bool.or_eq_true, decide_eq_true_eq] at hy
                rcases hy with rfl | hy
                · exact .inr (Nat.le_refl _)
                · rcases s3b'.out y hy with h | h
                  · exact .inl h
                  · exact .inr (Nat.le_of_lt h)

end Go.Proofs.Ytfihccfjboopiaa
