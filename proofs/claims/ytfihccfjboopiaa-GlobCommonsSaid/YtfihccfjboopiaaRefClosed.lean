/-
  THE WALK of coldplugref02.closed.
-/
import Derived.Test.YtfihccfjboopiaaRefPut
import Derived.Test.YtfihccfjboopiaaRefStep
namespace Go.Proofs.Ytfihccfjboopiaa
open Go Go.RowKit

set_option maxRecDepth 100000 in
set_option maxHeartbeats 4000000 in
theorem rclosed_any {w : World} {B1 B2 : Nat} {vx vy : Value} {P Q : List (List G.El)} {N t : Nat} (hP : ∀ a ∈ P, a.length ≤ N) (hQ : ∀ a ∈ Q, a.length ≤ N) (hN : N ≤ 256) (hM : (G.univ P Q N).length ≤ 10000000000)
    (hx : AltsR w B1 vx P) (hy : AltsR w B2 vy Q) (l : List PE) (a : Option Addr) (n c : Nat) (hl : PrIn w a n c l) (hs : ∀ e ∈ l.map entOf, G.SoundE P Q t e) (hn : n ≤ 10000000000) :
    Calls Try.prog 51 #[vx, vy, .slice a n c] w fun e w' => (∃ a' n' c' l', e = .returned (.slice a' n' c') ∧ PrIn w' a' n' c' l' ∧ n' ≤ (G.univ P Q N).length ∧ (∀ x, a' = some x → w.heap.size ≤ x.block) ∧ G.ClosedP P Q t (l.map entOf) (l'.map entOf)) ∧ Below w.heap.size w w' := by
  obtain ⟨Ts, hTs⟩ : ∃ Ts, (l.map entOf).map (·.2) = Ts := ⟨_, rfl⟩
  obtain ⟨M, hM'⟩ : ∃ M, (G.univ P Q N).length = M := ⟨_, rfl⟩
  rw [hM'] at hM ⊢
  obtain ⟨pv, cv, rfl, -⟩ := alts_parts hx
  obtain ⟨qv, dv, rfl, -⟩ := alts_parts hy
  have hMh := Lib.hid hM'; clear hM'
  have hTh := Lib.hid hTs; clear hTs
  have hx' := Lib.hid hx; clear hx
  have hy' := Lib.hid hy; clear hy
  have hl' := Lib.hid hl; clear hl
  have hs' := Lib.hid hs; clear hs
  have hP' := Lib.hid hP; clear hP
  have hQ' := Lib.hid hQ; clear hQ
  have hln : Hid (l.length = n) := hl'.out.2.1
  obtain ⟨xn, hxn⟩ : ∃ xn, P.length = xn := ⟨_, rfl⟩
  obtain ⟨yn, hyn⟩ : ∃ yn, Q.length = yn := ⟨_, rfl⟩
  rw [hxn] at hx' ⊢
  rw [hyn] at hy' ⊢
  have hxn' := Lib.hid hxn; clear hxn
  have hyn' := Lib.hid hyn; clear hyn
  have hlen : Hid (∀ (l7 : List PE) (d : List G.Ent) (W : World) (a7 : Option Addr) (n7 c7 : Nat), PrIn W a7 n7 c7 l7 → G.HalfP P Q t Ts d (l7.map entOf) → n7 ≤ M) := fun l7 d W a7 n7 c7 h1 h2 => by
    have := h2.len hP'.out hQ'.out
    rw [List.length_map, h1.2.1, hMh.out] at this
    exact this
  go_enter Try.func51, Try.ntmps51
  go_upto_block 0 with fail
  go_cut [7] (fun s7 wx => ∃ a7 n7 c7 l7, s7 = .slice a7 n7 c7 ∧ Hid (∀ x, a7 = some x → w.heap.size ≤ x.block) ∧ Hid (PrIn wx a7 n7 c7 l7) ∧ Hid (G.HalfP P Q t Ts (l.map entOf) (l7.map entOf)) ∧ Hid (Below w.heap.size w wx))
  case first =>
    go_wp2_with fail
    go_loopw [7, 8] (fun s7 s8 wr => ∃ a7 n7 c7 l7, ∃ k : Nat, s7 = .slice a7 n7 c7 ∧ s8 = .int .i64 k ∧ k ≤ n ∧ Hid (∀ x, a7 = some x → w.heap.size ≤ x.block) ∧ Hid (PrIn wr a7 n7 c7 l7) ∧ Hid (G.HalfP P Q t Ts ((l.take k).map entOf) (l7.map entOf)) ∧ Hid (Below w.heap.size w wr)) (fun _ s8 _ => n - (intOf s8).toNat)
    case atStart => exact ⟨_, _, _, [], 0, rfl, rfl, by omega, (show ∀ x, (none : Option Addr) = some x → w.heap.size ≤ x.block from fun x h => by cases h), PrIn.nil _, (show G.HalfP P Q t Ts ((l.take 0).map entOf) [] from by simpa using G.HalfP.nil), (Below.refl _ _ : Below w.heap.size w w)⟩
    case round =>
      obtain ⟨a7, n7, c7, l7, k, rfl, rfl, hk, hf7, hp7, hh7, hb⟩ := hrel
      by_cases hkm : k < n
      · obtain ⟨x, g, o, hx, rfl, ⟨c0, c1⟩, c2, c3, c4⟩ := hl'.out.at hb.out hkm
        have ik : (k : Int) < (n : Int) := by omega
        have ik0 : (0 : Int) ≤ (k : Int) := by omega
        have hput := Lib.hid (rput_any l7 a7 n7 c7 x wr hp7.out (by have := hlen.out _ _ _ _ _ _ hp7.out hh7.out; omega))
        have hmem : Hid (entOf x ∈ l.map entOf) := List.mem_map_of_mem (List.mem_of_getElem? hx)
        have hnew : Hid (∀ l8 : List PE, l8.map entOf = G.putP (l7.map entOf) (entOf x) → G.HalfP P Q t Ts ((l.take (k + 1)).map entOf) (l8.map entOf)) := fun l8 h8 => by
          rw [h8, List.take_add_one, hx, List.map_append]
          exact hh7.out.put (hs'.out _ hmem.out) (by rw [← hTh.out]; exact List.mem_map_of_mem hmem.out)
        obtain ⟨⟨xa, xi, xb, xj⟩, xt⟩ := x
        dsimp only at c0 c1 c2 c3 c4 hput
        clear hx hh7 hmem
        go_wp2_with fail
        refine hput.out.mono ?_
        rintro e w2 ⟨⟨a8, n8, c8, l8, rfl, hp8, -, hf8, hm8⟩, hb8⟩
        have hb9 := Lib.hid (hb.out.trans (hb8.mono hb.out.size))
        have hf8' : Hid (∀ x, a8 = some x → w.heap.size ≤ x.block) := hf8.elim (fun e => e ▸ hf7.out) (fun h x hx => Nat.le_trans hb.out.size (h x hx))
        have hp8' := Lib.hid hp8
        have hh8 := Lib.hid (hnew.out l8 hm8)
        clear hp8 hm8 hb8 hnew hb hp7 hput hf8 c0 c1 c2 c3 c4
        go_wp2_with fail
        go_roundw
        case rel => exact ⟨_, _, _, l8, k + 1, rfl, by go_num, by omega, hf8', hp8', hh8, hb9⟩
        case measure => simp [intOf]; omega
      · obtain rfl : k = n := by omega
        go_wp2_with fail
        go_meet
        case rel =>
          refine ⟨_, _, _, l7, rfl, hf7, hp7, ?_, hb⟩
          have := hh7.out
          rw [List.take_of_length_le (by have := hln.out; omega)] at this
          exact this
  case rest =>
    obtain ⟨a7, n7, c7, l7, rfl, hf7, hp7, hh7, hb7⟩ := hcut
    generalize wc = w1 at *
    have hn7 := hlen.out _ _ _ _ _ _ hp7.out hh7.out
    go_upto_region 6 with fail
    go_wp2_with fail
    go_loopg [7, 9] (G.pot (G.univ P Q N) Ts (l7.map entOf) * (M + 1) + M) (fun gk s7 s9 wr => ∃ a7 n7 c7 l7, ∃ k : Nat, s7 = .slice a7 n7 c7 ∧ s9 = .int .i64 k ∧ k ≤ n7 ∧ Hid (gk = G.pot (G.univ P Q N) Ts (l7.map entOf) * (M + 1) + (M - k)) ∧ Hid (∀ x, a7 = some x → w.heap.size ≤ x.block) ∧ Hid (PrIn wr a7 n7 c7 l7) ∧ Hid (G.HalfP P Q t Ts (l.map entOf) (l7.map entOf)) ∧ Hid (G.DoneTo P Q (l7.map entOf) k) ∧ Hid (Below w.heap.size w wr))
    case atStart => exact ⟨_, _, _, l7, 0, rfl, rfl, by omega, (show _ = _ from by omega), hf7, hp7, hh7, (show G.DoneTo P Q (l7.map entOf) 0 from G.DoneTo.zero), hb7⟩
    case round =>
      clear hf7 hp7 hh7 hb7 hn7
      clear a7 n7 c7 l7
      obtain ⟨a7, n7, c7, l7, k, rfl, rfl, hk, hgk, hf7, hp7, hh7, hd7, hb⟩ := hrel
      have hn7 := hlen.out _ _ _ _ _ _ hp7.out hh7.out
      by_cases hkm : k < n7
      · obtain ⟨x, g, o, hx, rfl, ⟨c0, c1⟩, c2, c3, c4⟩ := hp7.out.at (Below.refl _ _) hkm
        have ik : (k : Int) < (n7 : Int) := by omega
        have ik0 : (0 : Int) ≤ (k : Int) := by omega
        have hmem : entOf x ∈ l7.map entOf := List.mem_map_of_mem (List.mem_of_getElem? hx)
        have hsx := Lib.hid (hh7.out.sound _ hmem)
        have hin : G.InP P Q x.1 := hsx.out.1.2.1
        have hat : Hid ((l7.map entOf)[k]? = some (entOf x)) := by rw [List.getElem?_map, hx]; rfl
        obtain ⟨⟨za, zi, zb, zj⟩, zt⟩ := x
        dsimp only at c0 c1 c2 c3 c4 hin
        obtain ⟨g1, pu, cu, rfl, -, g1l, r1, r2⟩ := hx'.out.at hb.out (k := za) hin.1
        obtain ⟨g2, qu, du, rfl, -, g2l, s1, s2⟩ := hy'.out.at hb.out (k := zb) hin.2.1
        obtain ⟨la, hla⟩ : ∃ la, (P.getD za []).length = la := ⟨_, rfl⟩
        obtain ⟨lb, hlb⟩ : ∃ lb, (Q.getD zb []).length = lb := ⟨_, rfl⟩
        rw [hla] at r1 r2
        rw [hlb] at s1 s2
        have hil : zi ≤ la := by have := hin.2.2.1; simp only at this; omega
        have hjl : zj ≤ lb := by have := hin.2.2.2; simp only at this; omega
        have ia0 : (0 : Int) ≤ (za : Int) := by omega
        have ia1 : (za : Int) < (xn : Int) := by have := hin.1; have := hxn'.out; simp only at *; omega
        have ib0 : (0 : Int) ≤ (zb : Int) := by omega
        have ib1 : (zb : Int) < (yn : Int) := by have := hin.2.1; have := hyn'.out; simp only at *; omega
        have hla2 : la ≤ 256 := by
          rw [← hla]
          have := hP'.out _ (G.inP_mem (Q := Q) hsx.out.1.2.1).1
          exact Nat.le_trans this hN
        have hlb2 : lb ≤ 256 := by
          rw [← hlb]
          have := hQ'.out _ (G.inP_mem (P := P) hsx.out.1.2.1).2
          exact Nat.le_trans this hN
        have hla' := Lib.hid hla; clear hla
        have hlb' := Lib.hid hlb; clear hlb
        have r2' := Lib.hid r2; clear r2
        have s2' := Lib.hid s2; clear s2
        have hst1 : Hid ((zi < la ∧ ∃ e ge, pu = some ⟨ge, 0, none⟩ ∧ G.starts (G.prOf P Q ⟨za, zi, zb, zj⟩).1 = e ∧ ∀ Y, Below wr.heap.size wr Y → Y.cell? ⟨ge, zi * 130, none⟩ = some (.bool e)) ∨ (zi = la ∧ G.starts (G.prOf P Q ⟨za, zi, zb, zj⟩).1 = false)) := by
          have e1 := hla'.out
          by_cases h : zi < la
          · obtain ⟨e, he⟩ : ∃ e, (P.getD za [])[zi]? = some e := ⟨_, List.getElem?_eq_getElem (by omega)⟩
            obtain ⟨ge, h1, _⟩ := r2'.out.star (Below.refl _ _) he
            refine .inl ⟨h, e.star, ge, h1, G.starts_at he, fun Y hY => ?_⟩
            obtain ⟨ge2, h3, h4⟩ := r2'.out.star hY he
            rw [h1] at h3
            cases h3
            exact h4
          · exact .inr ⟨by omega, G.starts_end (by show (P.getD za []).length ≤ zi; omega)⟩
        have hst2 : Hid ((zj < lb ∧ ∃ e ge, qu = some ⟨ge, 0, none⟩ ∧ G.starts (G.prOf P Q ⟨za, zi, zb, zj⟩).2 = e ∧ ∀ Y, Below wr.heap.size wr Y → Y.cell? ⟨ge, zj * 130, none⟩ = some (.bool e)) ∨ (zj = lb ∧ G.starts (G.prOf P Q ⟨za, zi, zb, zj⟩).2 = false)) := by
          have e1 := hlb'.out
          by_cases h : zj < lb
          · obtain ⟨e, he⟩ : ∃ e, (Q.getD zb [])[zj]? = some e := ⟨_, List.getElem?_eq_getElem (by omega)⟩
            obtain ⟨ge, h1, _⟩ := s2'.out.star (Below.refl _ _) he
            refine .inl ⟨h, e.star, ge, h1, G.starts_at he, fun Y hY => ?_⟩
            obtain ⟨ge2, h3, h4⟩ := s2'.out.star hY he
            rw [h1] at h3
            cases h3
            exact h4
          · exact .inr ⟨by omega, G.starts_end (by show (Q.getD zb []).length ≤ zj; omega)⟩
        have hr1 : Hid (∀ Y, Below wr.heap.size wr Y → Y.cell? ⟨g1, za, none⟩ = some (.slice pu la cu)) := fun Y h => (World.cell?_of_block (h.block g1 (Nat.lt_of_lt_of_le g1l hb.out.size))).trans r1
        have hr2 : Hid (∀ Y, Below wr.heap.size wr Y → Y.cell? ⟨g2, zb, none⟩ = some (.slice qu lb du)) := fun Y h => (World.cell?_of_block (h.block g2 (Nat.lt_of_lt_of_le g2l hb.out.size))).trans s1
        obtain ⟨b1, hb1⟩ : ∃ b1, G.starts (G.prOf P Q ⟨za, zi, zb, zj⟩).1 = b1 := ⟨_, rfl⟩
        obtain ⟨b2, hb2⟩ : ∃ b2, G.starts (G.prOf P Q ⟨za, zi, zb, zj⟩).2 = b2 := ⟨_, rfl⟩
        rw [hb1] at hst1
        rw [hb2] at hst2
        have hb1' := Lib.hid hb1; clear hb1
        have hb2' := Lib.hid hb2; clear hb2
        have hx7 := Lib.hid hx
        clear hx hmem hin r2' s2' hla' hlb' r1 s1 g1l g2l
        have hZ : Hid (Blk (wr.alloc (.cells #[.int .i64 za, .int .i64 zb, .int .i64 zi, .int .i64 zj, .string zt] 97)) wr.heap.size 97 #[.int .i64 za, .int .i64 zb, .int .i64 zi, .int .i64 zj, .string zt]) := Blk.new _ _ _
        have hbz : Hid (Below wr.heap.size wr (wr.alloc (.cells #[.int .i64 za, .int .i64 zb, .int .i64 zi, .int .i64 zj, .string zt] 97))) := (Below.refl _ _).alloc (Nat.le_refl _) _
        go_upto_region 10 with fail
        generalize wr.alloc (.cells #[.int .i64 za, .int .i64 zb, .int .i64 zi, .int .i64 zj, .string zt] 97) = w2 at *
        clear c0 c1 c2 c3 c4
        go_cut [55] (fun s55 wx => s55 = .bool b1 ∧ ∃ m, wx = w2.drewN m)
        case first =>
          have x0 := hZ.out.cell 0
          have x1 := hZ.out.cell 2
          simp only [List.getElem?_toArray, List.getElem?_cons_zero, List.getElem?_cons_succ] at x0 x1
          have d1 := hr1.out _ hbz.out
          rcases hst1.out with ⟨h, e, ge, rfl, rfl, hc⟩ | ⟨rfl, rfl⟩
          · have cs := hc _ hbz.out
            have ii : (zi : Int) < (la : Int) := by omega
            have ii0 : (0 : Int) ≤ (zi : Int) := by omega
            have ig : decide ((zi : Int) < (la : Int)) = true := decide_eq_true ii
            go_quiet (fail)
            go_wp2_with fail
            go_meet
            case rel => exact ⟨rfl, _, rfl⟩
          · have ii : ¬ (zi : Int) < (zi : Int) := by omega
            have ig : decide ((zi : Int) < (zi : Int)) = false := decide_eq_false ii
            go_quiet (fail)
            go_wp2_with fail
            go_meet
            case rel => exact ⟨rfl, _, rfl⟩
        case rest =>
          obtain ⟨rfl, m1, rfl⟩ := hcut
          have hZ1a := Lib.hid (hZ.out.drewN m1)
          have hbz1a := Lib.hid (below_drawN hbz.out m1)
          clear hZ hbz
          generalize w2.drewN m1 = w3 at *
          go_upto_if 55 with fail
          go_cut [7, 9] (fun s7 s9 wx => s7 = .slice (some ⟨g, o, none⟩) n7 c7 ∧ s9 = .int .i64 k ∧ Hid (G.starts (G.prOf P Q ⟨za, zi, zb, zj⟩).1 = false ∨ G.betterP (l7.map entOf) (entOf (⟨za, zi + 1, zb, zj⟩, zt)) = false) ∧ Hid (Below w3.heap.size w3 wx))
          case first =>
            cases b1 with
            | false =>
              go_wp2_with fail
              go_meet
              case rel => exact ⟨rfl, rfl, (show _ ∨ _ from .inl hb1'.out), (show Below w3.heap.size w3 w3 from Below.refl _ _)⟩
            | true =>
              have hskm : Hid (G.SoundE P Q t (entOf (⟨za, zi + 1, zb, zj⟩, zt)) ∧ (entOf (⟨za, zi + 1, zb, zj⟩, zt)).2 ∈ Ts) := ⟨G.sound_skip hsx.out.1 (G.mem_skip1 hb1'.out), hsx.out.2⟩
              have hbn : Hid (Below wr.heap.size wr (w3.alloc (.cells #[.int .i64 za, .int .i64 zb, .int .i64 ((zi : Int) + 1), .int .i64 zj, .string zt] 97))) := hbz1a.out.alloc hbz1a.out.size _
              have hpn := Lib.hid (hp7.out.below hbn.out)
              have hbt := Lib.hid (rbetter_any l7 _ (⟨za, zi + 1, zb, zj⟩, zt) _ hpn.out.1)
              obtain ⟨T, hT⟩ : ∃ T, G.betterP (l7.map entOf) (entOf (⟨za, zi + 1, zb, zj⟩, zt)) = T := ⟨_, rfl⟩
              have ec : ((zi + 1 : Nat) : Int) = (zi : Int) + 1 := by omega
              rw [hT] at hbt
              dsimp only at hbt
              rw [ec] at hbt
              clear ec
              have hT' := Lib.hid hT; clear hT
              have hzc := hZ1a.out
              have z0 := hzc.cell 0
              have z1 := hzc.cell 1
              have z2 := hzc.cell 2
              have z3 := hzc.cell 3
              have z4 := hzc.cell 4
              simp only [List.getElem?_toArray, List.getElem?_cons_zero, List.getElem?_cons_succ] at z0 z1 z2 z3 z4
              have iw : IntKind.i64.wrap ((zi : Int) + 1) = (zi : Int) + 1 := IntWalk.i64_in _ (by omega)
              clear hzc
              go_wp2_with fail
              refine hbt.out.mono ?_
              rintro e w6 ⟨rfl, hb6⟩
              have hN : Hid (Blk w6 w3.heap.size 97 #[.int .i64 za, .int .i64 zb, .int .i64 ((zi : Int) + 1), .int .i64 zj, .string zt]) := (Blk.new _ _ _).below hb6 (Blk.new _ _ _).lt
              have hbw : Hid (Below wr.heap.size wr w6) := hbn.out.trans (hb6.mono hbn.out.size)
              have hb63 : Hid (Below w3.heap.size w3 w6) := ((Below.refl _ _).alloc (Nat.le_refl _) _).trans (hb6.mono (by simp))
              clear hb6 hbt hbn hpn z0 z1 z2 z3 z4
              cases T with
              | false =>
                go_wp2_with fail
                go_meet
                case rel => exact ⟨rfl, rfl, (show _ ∨ _ from .inr hT'.out), (show Below w3.heap.size w3 w6 from hb63.out)⟩
              | true =>
                have hp6 := Lib.hid (hp7.out.below hbw.out)
                have hput := Lib.hid (rput_any l7 _ _ _ (⟨za, zi + 1, zb, zj⟩, zt) w6 hp6.out (by omega))
                have hnc := hN.out
                have y0 := hnc.cell 0
                have y1 := hnc.cell 1
                have y2 := hnc.cell 2
                have y3 := hnc.cell 3
                have y4 := hnc.cell 4
                simp only [List.getElem?_toArray, List.getElem?_cons_zero, List.getElem?_cons_succ] at y0 y1 y2 y3 y4
                have ec : ((zi + 1 : Nat) : Int) = (zi : Int) + 1 := by omega
                dsimp only at hput
                rw [ec] at hput
                clear ec hnc hN
                go_wp2_with fail
                refine hput.out.mono ?_
                rintro e w8 ⟨⟨a8, n8, c8, l8, rfl, hp8, -, hf8, hm8⟩, hb8⟩
                have hf8' : Hid (∀ x, a8 = some x → w.heap.size ≤ x.block) := hf8.elim (fun e => e ▸ hf7.out) (fun h x hx => Nat.le_trans (hb.out.trans (hbw.out.mono hb.out.size)).size (h x hx))
                have hb9 := Lib.hid (hb.out.trans ((hbw.out.trans (hb8.mono hbw.out.size)).mono hb.out.size))
                have hp8' := Lib.hid hp8
                have hh8 : Hid (G.HalfP P Q t Ts (l.map entOf) (l8.map entOf)) := by
                  have := hh7.out.more hskm.out.1 hskm.out.2
                  rw [← hm8] at this
                  exact this
                have hpm : G.pot (G.univ P Q N) Ts (l8.map entOf) < G.pot (G.univ P Q N) Ts (l7.map entOf) := by
                  rw [hm8]
                  exact G.pot_lt hh7.out.once (G.mem_univ hP'.out hQ'.out hskm.out.1.2.1) hskm.out.2 hT'.out
                have hlt := G.potM (U := G.univ P Q N) (n := k) hpm
                rw [hMh.out, ← hgk.out] at hlt
                clear hpm hp8 hf8 hm8 hb8 hput hp6 hbw y0 y1 y2 y3 y4 hb hp7 hd7 hh7
                go_wp2_with fail
                go_roundg (G.pot (G.univ P Q N) Ts (l8.map entOf) * (M + 1) + M)
                case measure => exact hlt
                case rel => exact ⟨_, _, _, l8, 0, rfl, by go_num, by omega, (show _ = _ from by omega), hf8', hp8', hh8, (show G.DoneTo P Q (l8.map entOf) 0 from G.DoneTo.zero), hb9⟩
          case rest =>
            obtain ⟨rfl, rfl, hor1, hbc⟩ := hcut
            have hZ := Lib.hid (hZ1a.out.below hbc.out hZ1a.out.lt)
            have hbz := Lib.hid (hbz1a.out.trans (hbc.out.mono hbz1a.out.size))
            clear hZ1a hbz1a hbc
            generalize wc = w4 at *
            go_upto_region 16 with fail
            go_cut [87] (fun s55 wx => s55 = .bool b2 ∧ ∃ m, wx = w4.drewN m)
            case first =>
              have x0 := hZ.out.cell 1
              have x1 := hZ.out.cell 3
              simp only [List.getElem?_toArray, List.getElem?_cons_zero, List.getElem?_cons_succ] at x0 x1
              have d1 := hr2.out _ hbz.out
              rcases hst2.out with ⟨h, e, ge, rfl, rfl, hc⟩ | ⟨rfl, rfl⟩
              · have cs := hc _ hbz.out
                have ii : (zj : Int) < (lb : Int) := by omega
                have ii0 : (0 : Int) ≤ (zj : Int) := by omega
                have ig : decide ((zj : Int) < (lb : Int)) = true := decide_eq_true ii
                go_quiet (fail)
                go_wp2_with fail
                go_meet
                case rel => exact ⟨rfl, _, rfl⟩
              · have ii : ¬ (zj : Int) < (zj : Int) := by omega
                have ig : decide ((zj : Int) < (zj : Int)) = false := decide_eq_false ii
                go_quiet (fail)
                go_wp2_with fail
                go_meet
                case rel => exact ⟨rfl, _, rfl⟩
            case rest =>
              obtain ⟨rfl, m2, rfl⟩ := hcut
              have hZ2a := Lib.hid (hZ.out.drewN m2)
              have hbz2a := Lib.hid (below_drawN hbz.out m2)
              clear hZ hbz
              generalize w4.drewN m2 = w5 at *
              go_upto_if 87 with fail
              cases b2 with
              | false =>
                have hd8 : Hid (G.DoneTo P Q (l7.map entOf) (k + 1)) := hd7.out.step hat.out hor1.out (.inl hb2'.out)
                have hb9 := Lib.hid (hb.out.trans (hbz2a.out.mono hb.out.size))
                have hp9 := Lib.hid (hp7.out.below hbz2a.out)
                have hgk2 := hgk.out
                clear hp7 hd7 hb hat hor1
                go_wp2_with fail
                go_roundg (G.pot (G.univ P Q N) Ts (l7.map entOf) * (M + 1) + (M - (k + 1)))
                case measure => omega
                case rel => exact ⟨_, _, _, l7, k + 1, rfl, by go_num, by omega, (show _ = _ from rfl), hf7, hp9, hh7, hd8, hb9⟩
              | true =>
                have hskm : Hid (G.SoundE P Q t (entOf (⟨za, zi, zb, zj + 1⟩, zt)) ∧ (entOf (⟨za, zi, zb, zj + 1⟩, zt)).2 ∈ Ts) := ⟨G.sound_skip hsx.out.1 (G.mem_skip2 hb2'.out), hsx.out.2⟩
                have hbn : Hid (Below wr.heap.size wr (w5.alloc (.cells #[.int .i64 za, .int .i64 zb, .int .i64 zi, .int .i64 ((zj : Int) + 1), .string zt] 97))) := hbz2a.out.alloc hbz2a.out.size _
                have hpn := Lib.hid (hp7.out.below hbn.out)
                have hbt := Lib.hid (rbetter_any l7 _ (⟨za, zi, zb, zj + 1⟩, zt) _ hpn.out.1)
                obtain ⟨T, hT⟩ : ∃ T, G.betterP (l7.map entOf) (entOf (⟨za, zi, zb, zj + 1⟩, zt)) = T := ⟨_, rfl⟩
                have ec : ((zj + 1 : Nat) : Int) = (zj : Int) + 1 := by omega
                rw [hT] at hbt
                dsimp only at hbt
                rw [ec] at hbt
                clear ec
                have hT' := Lib.hid hT; clear hT
                have hzc := hZ2a.out
                have z0 := hzc.cell 0
                have z1 := hzc.cell 1
                have z2 := hzc.cell 2
                have z3 := hzc.cell 3
                have z4 := hzc.cell 4
                simp only [List.getElem?_toArray, List.getElem?_cons_zero, List.getElem?_cons_succ] at z0 z1 z2 z3 z4
                have iw : IntKind.i64.wrap ((zj : Int) + 1) = (zj : Int) + 1 := IntWalk.i64_in _ (by omega)
                clear hzc
                go_wp2_with fail
                refine hbt.out.mono ?_
                rintro e w6 ⟨rfl, hb6⟩
                have hN : Hid (Blk w6 w5.heap.size 97 #[.int .i64 za, .int .i64 zb, .int .i64 zi, .int .i64 ((zj : Int) + 1), .string zt]) := (Blk.new _ _ _).below hb6 (Blk.new _ _ _).lt
                have hbw : Hid (Below wr.heap.size wr w6) := hbn.out.trans (hb6.mono hbn.out.size)
                clear hb6 hbt hbn hpn z0 z1 z2 z3 z4
                cases T with
                | false =>
                  have hd8 : Hid (G.DoneTo P Q (l7.map entOf) (k + 1)) := hd7.out.step hat.out hor1.out (.inr hT'.out)
                  have hb9 := Lib.hid (hb.out.trans (hbw.out.mono hb.out.size))
                  have hp9 := Lib.hid (hp7.out.below hbw.out)
                  have hgk2 := hgk.out
                  clear hp7 hd7 hb hat hor1 hN
                  go_wp2_with fail
                  go_roundg (G.pot (G.univ P Q N) Ts (l7.map entOf) * (M + 1) + (M - (k + 1)))
                  case measure => omega
                  case rel => exact ⟨_, _, _, l7, k + 1, rfl, by go_num, by omega, (show _ = _ from rfl), hf7, hp9, hh7, hd8, hb9⟩
                | true =>
                  have hp6 := Lib.hid (hp7.out.below hbw.out)
                  have hput := Lib.hid (rput_any l7 _ _ _ (⟨za, zi, zb, zj + 1⟩, zt) w6 hp6.out (by omega))
                  have hnc := hN.out
                  have y0 := hnc.cell 0
                  have y1 := hnc.cell 1
                  have y2 := hnc.cell 2
                  have y3 := hnc.cell 3
                  have y4 := hnc.cell 4
                  simp only [List.getElem?_toArray, List.getElem?_cons_zero, List.getElem?_cons_succ] at y0 y1 y2 y3 y4
                  have ec : ((zj + 1 : Nat) : Int) = (zj : Int) + 1 := by omega
                  dsimp only at hput
                  rw [ec] at hput
                  clear ec hnc hN
                  go_wp2_with fail
                  refine hput.out.mono ?_
                  rintro e w8 ⟨⟨a8, n8, c8, l8, rfl, hp8, -, hf8, hm8⟩, hb8⟩
                  have hf8' : Hid (∀ x, a8 = some x → w.heap.size ≤ x.block) := hf8.elim (fun e => e ▸ hf7.out) (fun h x hx => Nat.le_trans (hb.out.trans (hbw.out.mono hb.out.size)).size (h x hx))
                  have hb9 := Lib.hid (hb.out.trans ((hbw.out.trans (hb8.mono hbw.out.size)).mono hb.out.size))
                  have hp8' := Lib.hid hp8
                  have hh8 : Hid (G.HalfP P Q t Ts (l.map entOf) (l8.map entOf)) := by
                    have := hh7.out.more hskm.out.1 hskm.out.2
                    rw [← hm8] at this
                    exact this
                  have hpm : G.pot (G.univ P Q N) Ts (l8.map entOf) < G.pot (G.univ P Q N) Ts (l7.map entOf) := by
                    rw [hm8]
                    exact G.pot_lt hh7.out.once (G.mem_univ hP'.out hQ'.out hskm.out.1.2.1) hskm.out.2 hT'.out
                  have hlt := G.potM (U := G.univ P Q N) (n := k) hpm
                  rw [hMh.out, ← hgk.out] at hlt
                  clear hpm hp8 hf8 hm8 hb8 hput hp6 hbw y0 y1 y2 y3 y4 hb hp7 hd7 hh7
                  go_wp2_with fail
                  go_roundg (G.pot (G.univ P Q N) Ts (l8.map entOf) * (M + 1) + M)
                  case measure => exact hlt
                  case rel => exact ⟨_, _, _, l8, 0, rfl, by go_num, by omega, (show _ = _ from by omega), hf8', hp8', hh8, (show G.DoneTo P Q (l8.map entOf) 0 from G.DoneTo.zero), hb9⟩
      · obtain rfl : k = n7 := by omega
        go_wp2_with fail
        go_ret
        refine ⟨⟨_, _, _, _, rfl, hp7.out, hn7, hf7.out, ?_⟩, hb.out⟩
        exact hh7.out.closed (by rw [List.length_map, hp7.out.2.1]; exact hd7.out)

end Go.Proofs.Ytfihccfjboopiaa
