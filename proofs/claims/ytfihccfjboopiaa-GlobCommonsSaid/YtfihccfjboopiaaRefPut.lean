/-
  THE WALK of coldplugref02.put.
-/
import Derived.Test.YtfihccfjboopiaaRefPairs
namespace Go.Proofs.Ytfihccfjboopiaa
open Go Go.RowKit

/-- What a cut leaves, kept folded in the walks. -/
def cutV (a : Option Addr) (l h m : Nat) : Value := sliced a l h m 5
theorem cut_size (W : World) : (sizeOf (Try.prog.elem 95)).run Try.prog W = .ok 5 W := by kernel_rfl
theorem cut_lo (a : Option Addr) (n c : Nat) (k : Int) (W : World) (h0 : 0 ≤ k) (h1 : k ≤ c) : (Instr.sliceAt 95 (.slice a n c) none (some (.int .i64 k)) none).run Try.prog W = .ok (cutV a 0 k.toNat c) W := by
  have hu : Try.prog.underlying 95 = some (.slice (Try.prog.elem 95)) := by kernel_rfl
  rw [run_sliceAt_slice W _ _ _ _ _ hu, run_slice_h W _ a n c hu .i64 k h0 h1, cut_size]
  rfl
theorem cut_hi (a : Option Addr) (n c : Nat) (k : Int) (W : World) (h0 : 0 ≤ k) (h1 : k ≤ n) : (Instr.sliceAt 95 (.slice a n c) (some (.int .i64 k)) none none).run Try.prog W = .ok (cutV a k.toNat n c) W := by
  have hu : Try.prog.underlying 95 = some (.slice (Try.prog.elem 95)) := by kernel_rfl
  rw [run_sliceAt_slice W _ _ _ _ _ hu, run_slice_l W _ a n c hu .i64 k h0 h1, cut_size]
  rfl
attribute [local go_sem ↓] cut_lo cut_hi

theorem PrIn.at {w wr : World} {a : Option Addr} {n c k : Nat} {l : List PE} (h : PrIn w a n c l) (hb : Below w.heap.size w wr) (hk : k < n) : ∃ x g o, l[k]? = some x ∧ a = some ⟨g, o, none⟩ ∧ (wr.cell? ⟨g, o + k * 5, none⟩ = some (.int .i64 x.1.a) ∧ wr.cell? ⟨g, o + k * 5 + 1, none⟩ = some (.int .i64 x.1.b)) ∧ wr.cell? ⟨g, o + k * 5 + 2, none⟩ = some (.int .i64 x.1.i) ∧ wr.cell? ⟨g, o + k * 5 + 3, none⟩ = some (.int .i64 x.1.j) ∧ wr.cell? ⟨g, o + k * 5 + 4, none⟩ = some (.string x.2) := by
  obtain ⟨⟨h1, h2⟩, hn, hc⟩ := h
  rcases h2 with ⟨_, h0⟩ | ⟨g, o, cap, h, hg, hcc⟩
  · rw [List.map_eq_nil_iff] at h0
    subst h0
    simp at hn
    omega
  · cases h
    obtain ⟨x, hx⟩ : ∃ x, l[k]? = some x := ⟨_, List.getElem?_eq_getElem (by simpa using hk)⟩
    have hx2 : (l.map pairC)[k]? = some (pairC x) := by rw [List.getElem?_map, hx]; rfl
    have e : ∀ i, wr.cell? ⟨g, i, none⟩ = w.cell? ⟨g, i, none⟩ := fun i => World.cell?_of_block (hb.block g hg)
    exact ⟨x, g, o, hx, rfl, ⟨(e _).trans (hcc k _ hx2 0 _ rfl), (e _).trans (hcc k _ hx2 1 _ rfl)⟩, (e _).trans (hcc k _ hx2 2 _ rfl), (e _).trans (hcc k _ hx2 3 _ rfl), (e _).trans (hcc k _ hx2 4 _ rfl)⟩
theorem PrIn.len {w : World} {a : Option Addr} {n c k : Nat} {l : List PE} (h : PrIn w a n c l) (hk : k ≤ n) : (l.take k).length = k ∧ (l.drop k).length = n - k := by
  have := h.2.1
  rw [List.length_take, List.length_drop]
  omega
theorem own_none (w : World) (B : Nat) : OwnP w B none 0 0 [] := ⟨rfl, by
  exact ⟨rfl, .inl ⟨rfl, rfl⟩⟩⟩

theorem below_of_only {w w' : World} (h : Only (fun k => (Value.slice none 0 0).ownBlock = some k) w.drew w') : Below w.heap.size w w' := ⟨h.os, h.tape, h.output, h.size, fun k hk => h.block k hk fun e => by cases e⟩

theorem below_own {B : Nat} {w0 w w' : World} {p : Option Addr} {n c : Nat} {L : List PE} (hB : B ≤ w0.heap.size) (hb : Below B w0 w) (ho : OwnP w B p n c L) (h : Only (fun k => (Value.slice p n c).ownBlock = some k) w w') : Below B w0 w' :=
  ⟨h.os.trans hb.os, h.tape.trans hb.tape, h.output.trans hb.output, Nat.le_trans hb.size h.size, fun k hk => by
    have hl : k < w.heap.size := by have := hb.size; omega
    exact (h.block k hl fun e => by have := (World.ownsRow.lt ho.2 k e).1; omega).trans (hb.block k hk)⟩

theorem OwnP.fresh {w : World} {B : Nat} {p : Option Addr} {n c : Nat} {L : List PE} (h : OwnP w B p n c L) : ∀ x, p = some x → B ≤ x.block := fun x hx => by
  subst hx
  rcases h.2.2 with ⟨h, _⟩ | ⟨g, cap, cur, h, hB, _⟩
  · cases h
  · cases h; exact hB
theorem below_nil {w0 w w' : World} (hb : Below w0.heap.size w0 w) (h : Only (fun k => (Value.slice none 0 0).ownBlock = some k) w w') : Below w0.heap.size w0 w' :=
  ⟨h.os.trans hb.os, h.tape.trans hb.tape, h.output.trans hb.output, Nat.le_trans hb.size h.size, fun k hk => (h.block k (by have := hb.size; omega) fun e => by cases e).trans (hb.block k hk)⟩
theorem blk_nil {w w' : World} {b : Nat} {t : TypeId} {cs : Array Value} (hb : Blk w b t cs) (h : Only (fun k => (Value.slice none 0 0).ownBlock = some k) w w') : Blk w' b t cs := hb.same (h.block b hb.lt fun e => by cases e)
theorem OwnP.alloc {w : World} {B : Nat} {p : Option Addr} {n c : Nat} {L : List PE} (h : OwnP w B p n c L) (o : Obj) : OwnP (w.alloc o) B p n c L := ⟨h.1, World.ownsRow.alloc h.2 o⟩
theorem blk_pair {w : World} {b : Nat} {za zi zb zj : Nat} {zt : ByteArray} (h : Blk w b 97 #[.int .i64 za, .int .i64 zb, .int .i64 zi, .int .i64 zj, .string zt]) : PairsAt w (.slice (some ⟨b, 0, none⟩) 1 1) [(⟨za, zi, zb, zj⟩, zt)] := by
  refine ⟨by simp, .inr ⟨b, 0, 1, rfl, h.lt, fun k xs hx j u hu => ?_⟩⟩
  cases k with
  | zero =>
    simp at hx
    subst hx
    rw [show 0 + 0 * 5 + j = j by omega, h.cell j, ← hu]
    simp [pairC]
  | succ k => simp at hx

set_option maxRecDepth 100000 in
set_option maxHeartbeats 4000000 in
theorem rput_any (l : List PE) (a : Option Addr) (n c : Nat) (z : PE) (w : World) (hl : PrIn w a n c l) (hmax : n ≤ 100000000000) :
    Calls Try.prog 54 #[.slice a n c, .agg #[.int .i64 z.1.a, .int .i64 z.1.b, .int .i64 z.1.i, .int .i64 z.1.j, .string z.2]] w fun e w' => (∃ a' n' c' l', e = .returned (.slice a' n' c') ∧ PrIn w' a' n' c' l' ∧ n' ≤ n + 1 ∧ (a' = a ∨ ∀ x, a' = some x → w.heap.size ≤ x.block) ∧ l'.map entOf = G.putP (l.map entOf) (entOf z)) ∧ Below w.heap.size w w' := by
  obtain ⟨R, hR⟩ : ∃ R, (G.putP (l.map entOf) (entOf z)) = R := ⟨_, rfl⟩
  rw [hR]
  have hR' := Lib.hid hR; clear hR
  obtain ⟨⟨za, zi, zb, zj⟩, zt⟩ := z
  dsimp only at hR' ⊢
  have hb0 : Hid (Below w.heap.size w (w.alloc (.cells #[.int .i64 za, .int .i64 zb, .int .i64 zi, .int .i64 zj, .string zt] 97))) := (Below.refl _ _).alloc (Nat.le_refl _) _
  have hZ0 : Hid (Blk (w.alloc (.cells #[.int .i64 za, .int .i64 zb, .int .i64 zi, .int .i64 zj, .string zt] 97)) w.heap.size 97 #[.int .i64 za, .int .i64 zb, .int .i64 zi, .int .i64 zj, .string zt]) := Blk.new _ _ _
  have hl' := Lib.hid hl; clear hl
  have hln : Hid (l.length = n) := hl'.out.2.1
  go_enter Try.func54, Try.ntmps54
  go_upto_block 0 with fail
  go_cut [0] (fun s0 wx => ∃ a2 n2 c2 l2, s0 = .slice a2 n2 c2 ∧ n2 ≤ n ∧ Hid (PrIn wx a2 n2 c2 l2) ∧ Hid (G.insP (l2.map entOf) (entOf (⟨za, zi, zb, zj⟩, zt)) = R) ∧ Hid (Below w.heap.size w wx) ∧ Hid (Blk wx w.heap.size 97 #[.int .i64 za, .int .i64 zb, .int .i64 zi, .int .i64 zj, .string zt]))
  case first =>
    go_wp2_with fail

    go_loopw [0, 4, 5] (fun s0 _ s5 wr => ∃ k : Nat, s0 = .slice a n c ∧ s5 = .int .i64 k ∧ k ≤ n ∧ Hid (∀ x ∈ l.take k, x.1 ≠ ⟨za, zi, zb, zj⟩) ∧ Hid (Below w.heap.size w wr) ∧ Hid (Blk wr w.heap.size 97 #[.int .i64 za, .int .i64 zb, .int .i64 zi, .int .i64 zj, .string zt])) (fun _ _ s5 _ => n - (intOf s5).toNat)
    case atStart => exact ⟨0, rfl, rfl, by omega, (show ∀ x ∈ l.take 0, x.1 ≠ ⟨za, zi, zb, zj⟩ from fun x hx => by simp at hx), hb0, hZ0⟩
    case round =>
      clear hb0 hZ0
      obtain ⟨k, rfl, rfl, hk, hno, hb, hZ⟩ := hrel
      by_cases hkm : k < n
      · obtain ⟨x, g, o, hx, rfl, ⟨c0, c1⟩, c2, c3, c4⟩ := hl'.out.at hb.out hkm
        have z0 := hZ.out.cell 0
        have z1 := hZ.out.cell 1
        have z2 := hZ.out.cell 2
        have z3 := hZ.out.cell 3
        have z4 := hZ.out.cell 4
        simp only [List.getElem?_toArray, List.getElem?_cons_zero, List.getElem?_cons_succ] at z0 z1 z2 z3 z4
        have ik : (k : Int) < (n : Int) := by omega
        have ik0 : (0 : Int) ≤ (k : Int) := by omega
        have hx' := Lib.hid hx; clear hx
        obtain ⟨⟨xa, xi, xb, xj⟩, xt⟩ := x
        dsimp only at c0 c1 c2 c3 c4
        have hnext : Hid (¬ (xa = za ∧ xb = zb ∧ xi = zi ∧ xj = zj) → ∀ x ∈ l.take (k + 1), x.1 ≠ ⟨za, zi, zb, zj⟩) := fun h y hy => by
          rw [List.take_add_one, hx'.out] at hy
          rcases List.mem_append.1 hy with hy | hy
          · exact hno.out y hy
          · simp at hy; subst hy
            intro e
            cases e
            exact h ⟨rfl, rfl, rfl, rfl⟩
        by_cases ea : xa = za
        · subst ea
          by_cases eb : xb = zb
          · subst eb
            by_cases ei : xi = zi
            · subst ei
              by_cases ej : xj = zj
              · subst ej
                clear hnext
                obtain ⟨T, hT⟩ : ∃ T, (Op.bytesLess xt.toList zt.toList || xt.toList == zt.toList) = T := ⟨_, rfl⟩
                have hTl : Hid (G.tle (bs xt) (bs zt) = T) := (tle_less xt zt).symm.trans hT
                have hfind : Hid ((l.map entOf).find? (fun e => decide (e.1 = ⟨xa, xi, xb, xj⟩)) = some (entOf (⟨xa, xi, xb, xj⟩, xt))) := find_ents hx'.out hno.out rfl
                have hput : Hid (G.putP (l.map entOf) (entOf (⟨xa, xi, xb, xj⟩, zt)) = if T = true then l.map entOf else G.insP (G.delP (l.map entOf) ⟨xa, xi, xb, xj⟩) (entOf (⟨xa, xi, xb, xj⟩, zt))) := by
                  have h1 := hfind.out
                  unfold G.putP
                  rw [show (entOf (⟨xa, xi, xb, xj⟩, zt)).1 = ⟨xa, xi, xb, xj⟩ from rfl, h1]
                  show (if G.tle (bs xt) (bs zt) = true then _ else _) = _
                  rw [hTl.out]
                go_wp2_with fail
                go_quiet (fail)
                have hb3 := Lib.hid (below_drawN hb.out nq)
                have hZ3 := Lib.hid (hZ.out.drewN nq)
                have d4 : (wr.drewN nq).cell? ⟨g, o + k * 5 + 4, none⟩ = some (.string xt) := c4
                have y4 : (wr.drewN nq).cell? ⟨w.heap.size, 4, none⟩ = some (.string zt) := z4
                clear hb hZ z0 z1 z2 z3 z4 c0 c1 c2 c3 c4
                generalize wr.drewN nq = wp at *
                go_wp2_with fail
                go_quiet (fail)
                cases T with
                | true =>
                  clear hno
                  go_wp2_with fail
                  go_ret
                  exact ⟨⟨_, _, _, rfl, l, hl'.out.below (below_drawN hb3.out _), by omega, .inl rfl, by rw [← hR'.out, hput.out]; simp⟩, below_drawN hb3.out _⟩
                | false =>
                  have hb5 := Lib.hid (below_drawN hb3.out nq)
                  have hZ5 := Lib.hid (hZ3.out.drewN nq)
                  generalize wp.drewN nq = w5 at *
                  clear hb3 hZ3 d4 y4
                  have hP5 : Hid (∀ Y, Below w5.heap.size w5 Y → PrIn Y (some ⟨g, o, none⟩) n c l) := fun Y h => (hl'.out.below hb5.out).below h
                  have L1 := (hl'.out.len (k := k) hk).1
                  have L2 := (hl'.out.len (k := k + 1) (by omega)).2
                  have hV1 := (hP5.out w5.drew (Below.drew (Below.refl _ _))).lo (k := k) hk
                  have hL1 := Lib.hid L1
                  have hL2 := Lib.hid L2
                  have hV1' := Lib.hid hV1
                  have hno2 := hno
                  clear L1 L2 hV1 hno
                  have hnc := hl'.out.2.2
                  have hkc : k ≤ c := by omega
                  have hk1 : k + 1 ≤ n := by omega
                  have iw : IntKind.i64.wrap ((k : Int) + 1) = (k : Int) + 1 := IntWalk.i64_in _ (by omega)
                  have ik1 : (0 : Int) ≤ (k : Int) + 1 := by omega
                  have ik2 : (k : Int) + 1 ≤ (n : Int) := by omega
                  go_wp2_with fail
                  go_region_law (first
                    | (refine step_app_pairs (by rfl) (.const (.slice none 0 0)) (.tmp 62) w5.heap.size none 0 0 [] _ (l.take k) (by rfl) (by rfl) (own_none _ _) (by rfl) hV1'.out k (by have := hL1.out; omega) (by omega) (Nat.le_refl _) ?_; intro p1 c1 y1 hown1 hO1; have hV2 := (hP5.out y1 (below_of_only hO1)).hi (k := k + 1) (by omega))
                    | (refine step_app_pairs (by rfl) (.tmp 63) (.tmp 67) w5.heap.size p1 k c1 _ _ (l.drop (k + 1)) (by rfl) (by rfl) hown1 (by rfl) hV2 (n - 1) (by have := hL2.out; omega) (by omega) hO1.size ?_; intro p2 c2 y2 hown2 hO2))
                  all_goals
                    have hY1 := below_of_only hO1
                    have hY2 := below_own (Nat.le_refl _) hY1 hown1 hO2
                    have hF := hown2.pairs (by omega)
                    have hZ6 := hZ5.out.below hY2 hZ5.out.lt
                    have hb6 := hb5.out.trans (hY2.mono hb5.out.size)
                    have hF' := Lib.hid hF
                    have hZ6' := Lib.hid hZ6
                    have hb6' := Lib.hid hb6
                    clear hY1 hY2 hF hZ6 hb6 hO1 hO2 hown1 hown2 hV2 hZ5 hb5 hP5 hV1'
                    go_wp2_with fail
                    go_meet
                    refine ⟨_, _, _, _, rfl, by omega, hF', ?_, hb6', hZ6'⟩
                    show G.insP _ _ = R
                    rw [List.nil_append, del_at hx'.out rfl hno2.out, ← hR'.out, hput.out]
                    simp
              · have i1 : ¬ (xj : Int) = (zj : Int) := by omega
                have b1 : ((xj : Int) == (zj : Int)) = false := beq_eq_false_iff_ne.2 i1
                have hno2 := Lib.hid (hnext.out (by omega))
                clear hno hnext
                go_wp2_with fail
                go_quiet (fail)
                go_wp2_with fail
                go_roundw
                case rel => exact ⟨k + 1, rfl, by go_num, by omega, hno2, below_drawN hb.out _, hZ.out.drewN _⟩
                case measure => simp [intOf]; omega
            · have i1 : ¬ (xi : Int) = (zi : Int) := by omega
              have b1 : ((xi : Int) == (zi : Int)) = false := beq_eq_false_iff_ne.2 i1
              have hno2 := Lib.hid (hnext.out (by omega))
              clear hno hnext
              go_wp2_with fail
              go_quiet (fail)
              go_wp2_with fail
              go_roundw
              case rel => exact ⟨k + 1, rfl, by go_num, by omega, hno2, below_drawN hb.out _, hZ.out.drewN _⟩
              case measure => simp [intOf]; omega
          · have i1 : ¬ (xb : Int) = (zb : Int) := by omega
            have b1 : ((xb : Int) == (zb : Int)) = false := beq_eq_false_iff_ne.2 i1
            have hno2 := Lib.hid (hnext.out (by omega))
            clear hno hnext
            go_wp2_with fail
            go_quiet (fail)
            go_wp2_with fail
            go_roundw
            case rel => exact ⟨k + 1, rfl, by go_num, by omega, hno2, below_drawN hb.out _, hZ.out.drewN _⟩
            case measure => simp [intOf]; omega
        · have i1 : ¬ (xa : Int) = (za : Int) := by omega
          have b1 : ((xa : Int) == (za : Int)) = false := beq_eq_false_iff_ne.2 i1
          have hno2 := Lib.hid (hnext.out (by omega))
          clear hno hnext
          go_wp2_with fail
          go_quiet (fail)
          go_wp2_with fail
          go_roundw
          case rel => exact ⟨k + 1, rfl, by go_num, by omega, hno2, below_drawN hb.out _, hZ.out.drewN _⟩
          case measure => simp [intOf]; omega
      · obtain rfl : k = n := by omega
        have hnl : Hid (∀ x ∈ l, x.1 ≠ ⟨za, zi, zb, zj⟩) := fun x hx => hno.out x (by rw [List.take_of_length_le (by have := hln.out; omega)]; exact hx)
        clear hno
        go_wp2_with fail
        go_meet
        case rel =>
          refine ⟨_, _, _, l, rfl, Nat.le_refl _, hl'.out.below hb.out, ?_, hb, hZ⟩
          show G.insP _ _ = R
          rw [← hR'.out]
          unfold G.putP
          rw [find_ents_no (z := (entOf (⟨za, zi, zb, zj⟩, zt)).1) hnl.out]
  case rest =>
    clear hb0 hZ0 hl' hln hR'
    obtain ⟨a2, n2, c2, l2, rfl, hn2, hP, hR2, hb, hZ⟩ := hcut
    generalize wc = w6 at *
    go_upto_block 2 with fail
    go_cut [6] (fun s6 wx => ∃ k : Nat, s6 = .int .i64 k ∧ k ≤ n2 ∧ Hid (∀ x ∈ l2.take k, G.tle (bs x.2) (bs zt) = true) ∧ Hid (∀ x, l2[k]? = some x → G.tle (bs x.2) (bs zt) = false) ∧ Hid (Below w6.heap.size w6 wx))
    case first =>
      go_wp2_with fail
      go_loopw [6] (fun s6 wr => ∃ k : Nat, s6 = .int .i64 k ∧ k ≤ n2 ∧ Hid (∀ x ∈ l2.take k, G.tle (bs x.2) (bs zt) = true) ∧ Hid (Below w6.heap.size w6 wr)) (fun s6 _ => n2 - (intOf s6).toNat)
      case atStart => exact ⟨0, rfl, by omega, (show ∀ x ∈ l2.take 0, G.tle (bs x.2) (bs zt) = true from fun x hx => by simp at hx), (Below.refl _ _ : Below w6.heap.size w6 w6)⟩
      case round =>
        obtain ⟨k, rfl, hk, hall, hbr⟩ := hrel
        have y4 := (hZ.out.below hbr.out hZ.out.lt).cell 4
        simp only [List.getElem?_toArray, List.getElem?_cons_zero, List.getElem?_cons_succ] at y4
        by_cases hkm : k < n2
        · obtain ⟨x, g, o, hx, rfl, ⟨c0, c1⟩, cc2, c3, c4⟩ := hP.out.at hbr.out hkm
          clear c0 c1 cc2 c3
          have ik : (k : Int) < (n2 : Int) := by omega
          have ig : decide ((k : Int) < (n2 : Int)) = true := decide_eq_true ik
          have ik0 : (0 : Int) ≤ (k : Int) := by omega
          have hx' := Lib.hid hx; clear hx
          obtain ⟨xp, xt⟩ := x
          dsimp only at c4
          obtain ⟨T, hT⟩ : ∃ T, (Op.bytesLess xt.toList zt.toList || xt.toList == zt.toList) = T := ⟨_, rfl⟩
          have hTl : Hid (G.tle (bs xt) (bs zt) = T) := (tle_less xt zt).symm.trans hT
          go_wp2_with fail
          go_quiet (fail)
          cases T with
          | true =>
            have hall2 : Hid (∀ x ∈ l2.take (k + 1), G.tle (bs x.2) (bs zt) = true) := fun y hy => by
              rw [List.take_add_one, hx'.out] at hy
              rcases List.mem_append.1 hy with hy | hy
              · exact hall.out y hy
              · simp at hy; subst hy; exact hTl.out
            clear hall
            go_wp2_with fail
            go_roundw
            case rel => exact ⟨k + 1, by go_num, by omega, hall2, below_drawN hbr.out _⟩
            case measure => simp [intOf]; omega
          | false =>
            go_wp2_with fail
            go_meet
            case rel => exact ⟨k, rfl, hk, hall, (show ∀ x, l2[k]? = some x → G.tle (bs x.2) (bs zt) = false from fun y hy => by rw [hx'.out] at hy; cases hy; exact hTl.out), below_drawN hbr.out _⟩
        · obtain rfl : k = n2 := by omega
          have ik : ¬ (k : Int) < (k : Int) := by omega
          go_wp2_with fail
          go_quiet (fail)
          go_wp2_with fail
          go_meet
          case rel => exact ⟨k, rfl, hk, hall, (show ∀ x, l2[k]? = some x → G.tle (bs x.2) (bs zt) = false from fun y hy => by rw [List.getElem?_eq_none (by have := hP.out.2.1; omega)] at hy; cases hy), below_drawN hbr.out _⟩
    case rest =>
      obtain ⟨k, rfl, hk, hall, hnot, hbc⟩ := hcut
      generalize wc = w7 at *
      have hb7 := Lib.hid (hb.out.trans (hbc.out.mono hb.out.size))
      have hP7 : Hid (∀ Y, Below w7.heap.size w7 Y → PrIn Y a2 n2 c2 l2) := fun Y h => (hP.out.below hbc.out).below h
      have hZ7 : Hid (Blk w7 w.heap.size 97 #[.int .i64 za, .int .i64 zb, .int .i64 zi, .int .i64 zj, .string zt]) := hZ.out.below hbc.out hZ.out.lt
      have hn2l : Hid (l2.length = n2) := hP.out.2.1
      have hnc := hP.out.2.2
      have hins : Hid ((l2.take k ++ (⟨za, zi, zb, zj⟩, zt) :: l2.drop k).map entOf = R) := (ins_at (z := (⟨za, zi, zb, zj⟩, zt)) (by have := hn2l.out; omega) hall.out hnot.out).trans hR2.out
      have hL1 := Lib.hid ((hP.out.len (k := k) hk).1)
      have hL2 := Lib.hid ((hP.out.len (k := k) hk).2)
      clear hb hbc hP hZ hR2 hall hnot
      have hkc : k ≤ c2 := by omega
      have ik0 : (0 : Int) ≤ (k : Int) := by omega
      have ik1 : (k : Int) ≤ (n2 : Int) := by omega
      have hzc : Hid (∀ Y, Below w7.heap.size w7 Y → (Y.cell? ⟨w.heap.size, 0, none⟩ = some (.int .i64 za) ∧ Y.cell? ⟨w.heap.size, 1, none⟩ = some (.int .i64 zb) ∧ Y.cell? ⟨w.heap.size, 2, none⟩ = some (.int .i64 zi) ∧ Y.cell? ⟨w.heap.size, 3, none⟩ = some (.int .i64 zj) ∧ Y.cell? ⟨w.heap.size, 4, none⟩ = some (.string zt))) := fun Y h => by
        have e := hZ7.out.below h hZ7.out.lt
        exact ⟨(e.cell 0).trans rfl, (e.cell 1).trans rfl, (e.cell 2).trans rfl, (e.cell 3).trans rfl, (e.cell 4).trans rfl⟩
      have hD0 : Below w7.heap.size w7 w7.drew := Below.drew (Below.refl _ _)
      have hD1 : Below w7.heap.size w7 (w7.alloc (.cells #[.int .i64 za, .int .i64 zb, .int .i64 zi, .int .i64 zj, .string zt] 97)).drew := ((Below.refl _ _).alloc (Nat.le_refl _) _).drew
      obtain ⟨z0, z1, z2, z3, z4⟩ := hzc.out w7 (Below.refl _ _)
      go_wp2_with fail
      go_region_law (first
        | (refine step_app_pairs (by rfl) (.const (.slice none 0 0)) (.tmp 87) w7.heap.size none 0 0 [] _ (l2.take k) (by rfl) (by rfl) (own_none _ _) (by rfl) ((hP7.out _ (by first | exact hD0 | exact hD1)).lo hk) k (by have := hL1.out; omega) (by omega) (by first | exact hD0.size | exact hD1.size) ?_; intro p1 c1 y1 hown1 hO1; have hY1 := below_nil (by first | exact hD0 | exact hD1) hO1; have q := hzc.out y1 hY1; have q0 := q.1; have q1 := q.2.1; have q2 := q.2.2.1; have q3 := q.2.2.2.1; have q4 := q.2.2.2.2; (first | (have hB1 := blk_nil (Blk.new w7 97 #[.int .i64 za, .int .i64 zb, .int .i64 zi, .int .i64 zj, .string zt]).drew hO1) | skip))
        | (refine step_app_pairs (by rfl) (.tmp 88) (.tmp 90) w7.heap.size p1 k c1 _ _ [(⟨za, zi, zb, zj⟩, zt)] (by rfl) (by rfl) (hown1.alloc _) (by rfl) (blk_pair (Blk.new y1 _ _)) (k + 1) (by rfl) (by omega) (hY1.alloc hY1.size _).size ?_; intro p2 c2' y2 hown2 hO2; have hY2 := below_own (Nat.le_refl _) (hY1.alloc hY1.size _) (hown1.alloc _) hO2)
        | (refine step_app_pairs (by rfl) (.tmp 88) (.tmp 90) w7.heap.size p1 k c1 _ _ [(⟨za, zi, zb, zj⟩, zt)] (by rfl) (by rfl) hown1 (by rfl) (blk_pair hB1) (k + 1) (by rfl) (by omega) hY1.size ?_; intro p2 c2' y2 hown2 hO2; have hY2 := below_own (Nat.le_refl _) hY1 hown1 hO2)
        | (refine step_app_pairs (by rfl) (.tmp 91) (.tmp 94) w7.heap.size p2 (k + 1) c2' _ _ (l2.drop k) (by rfl) (by rfl) hown2 (by rfl) ((hP7.out y2 hY2).hi hk) (n2 + 1) (by have := hL2.out; omega) (by omega) hY2.size ?_; intro p3 c3 y3 hown3 hO3))
      all_goals
        have hY3 := below_own (Nat.le_refl _) hY2 hown2 hO3
        have hF := hown3.pairs (by omega)
        have hfr : Hid (∀ x, p3 = some x → w.heap.size ≤ x.block) := fun x hx => Nat.le_trans hb7.out.size (hown3.fresh x hx)
        have hb8 := hb7.out.trans (hY3.mono hb7.out.size)
        have hF' := Lib.hid hF
        have hb8' := Lib.hid hb8
        clear hY1 hY2 hY3 hF hb8 hO1 hO2 hO3 hown1 hown2 hown3 hb7 hP7 hzc hZ7 z0 z1 z2 z3 z4
        go_wp2_with fail
        go_ret
        refine ⟨⟨_, _, _, _, rfl, hF'.out, by omega, .inr hfr.out, ?_⟩, hb8'.out⟩
        rw [List.nil_append, List.append_assoc]
        exact hins.out

end Go.Proofs.Ytfihccfjboopiaa
