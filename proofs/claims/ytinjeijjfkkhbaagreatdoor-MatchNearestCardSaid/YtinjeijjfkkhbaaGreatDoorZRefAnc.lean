/-
  THE WALK of coldplugref12.Ancestor.
-/
import Derived.Test.YtinjeijjfkkhbaaGreatDoorZAncP
import Derived.Test.YtinjeijjfkkhbaaGreatDoorZOrigin
import Derived.Test.YtinjeijjfkkhbaaGreatDoorRefDev
namespace Go.Proofs.YtinjeijjfkkhbaaGreatDoor
open Go Go.RowKit

theorem Trm.at {w : World} {a : Option Addr} {n c k : Nat} {ts : List Trm} (h : TrmsAt w (.slice a n c) ts) (hk : k < n) : ∃ t g o, ts[k]? = some t ∧ a = some ⟨g, o, none⟩ ∧ g < w.heap.size ∧ ∀ Y, Below w.heap.size w Y → Y.cell? ⟨g, o + k * 4, none⟩ = some (.int .i64 t.k) ∧ Y.cell? ⟨g, o + k * 4 + 1, none⟩ = some (.string t.n) ∧ Y.cell? ⟨g, o + k * 4 + 2, none⟩ = some (.int .i64 t.o) ∧ Y.cell? ⟨g, o + k * 4 + 3, none⟩ = some (.string t.v) := by
  rcases h.2 with ⟨h1, h0⟩ | ⟨g, o, cap, h1, hg, hc⟩
  · cases h1; omega
  · cases h1
    obtain ⟨t, ht⟩ : ∃ t, ts[k]? = some t := ⟨_, List.getElem?_eq_getElem (by simpa using hk)⟩
    have ht2 : (ts.map trmC)[k]? = some (trmC t) := by rw [List.getElem?_map, ht]; rfl
    exact ⟨t, g, o, ht, rfl, hg, fun Y hY => ⟨(World.cell?_of_block (hY.block g hg)).trans (hc k _ ht2 0 _ rfl), (World.cell?_of_block (hY.block g hg)).trans (hc k _ ht2 1 _ rfl), (World.cell?_of_block (hY.block g hg)).trans (hc k _ ht2 2 _ rfl), (World.cell?_of_block (hY.block g hg)).trans (hc k _ ht2 3 _ rfl)⟩⟩
theorem TrmsAt.shape {w : World} {v : Value} {ts : List Trm} (h : TrmsAt w v ts) : ∃ a c, v = .slice a ts.length c := by
  rcases h.2 with ⟨rfl, h0⟩ | ⟨g, o, cap, rfl, _⟩
  · rw [List.map_eq_nil_iff] at h0
    subst h0
    exact ⟨none, 0, rfl⟩
  · exact ⟨_, _, by rw [List.length_map]⟩
/-- No term is off at x, as far as k terms have been looked at. -/
def goodTo (ts : List Trm) (x : Dev) (k : Nat) : Bool := !((ts.take k).any (offS x))
theorem goodTo_succ {ts : List Trm} {x : Dev} {k : Nat} {t : Trm} (h : ts[k]? = some t) : goodTo ts x (k + 1) = (goodTo ts x k && (!upS' t.k t.o || devS t.k t.n t.o t.v x)) := by
  unfold goodTo
  rw [List.take_add_one, h, List.any_append]
  simp [offS]
def AncAns (ts : List Trm) (R : List Dev) (e : Ending) : Prop := e = .returned (.tuple #[.int .i64 (ancR ts R).1, .bool (ancR ts R).2])

set_option maxRecDepth 100000 in
set_option maxHeartbeats 8000000 in
theorem rancestor_any (ts : List Trm) (tv : Value) (l : List Dev) (p : Option Addr) (N c : Nat) (i : Int) (w : World) (hl : DevsAt w (.slice p N c) l) (hNb : N ≤ 1000) (hts : TrmsAt w tv ts) (htl : ts.length ≤ 1000000) (htv : ∀ t ∈ ts, t.v.size ≤ 9223372036854775807) (hfit : ∀ d ∈ l, DevFit d) :
    Calls Tryz.prog 10 #[tv, .agg #[.slice p N c], .int .i64 i] w fun e w' => AncAns ts (chainR l N i) e ∧ Below w.heap.size w w' := by
  obtain ⟨ta, tc, rfl⟩ := hts.shape
  obtain ⟨tn, htn⟩ : ∃ tn, ts.length = tn := ⟨_, rfl⟩
  rw [htn] at hts htl ⊢
  have hb1 : Hid (Below w.heap.size w (w.alloc (.cells #[.slice p N c] 30))) := (Below.refl _ _).alloc (Nat.le_refl _) _
  have hX : Hid (Blk (w.alloc (.cells #[.slice p N c] 30)) w.heap.size 30 #[.slice p N c]) := Blk.new _ _ _
  have hC := Lib.hid (rchain_any l p N c i _ (hl.below hb1.out) hNb)
  have hlen := chainR_len l N i
  have hmem : Hid (∀ d ∈ chainR l N i, d ∈ l) := chainR_mem l N i
  generalize chainR l N i = R at *
  have hl' := Lib.hid hl; clear hl
  have hts' := Lib.hid hts; clear hts
  have htn' := Lib.hid htn; clear htn
  have htv' := Lib.hid htv; clear htv
  have hfit' := Lib.hid hfit; clear hfit
  go_enter Tryz.func10, Tryz.ntmps10
  go_upto_region 1 with fail
  generalize w.alloc (.cells #[.slice p N c] 30) = w2 at *
  have x0 := hX.out.cell 0
  simp only [List.getElem?_toArray, List.getElem?_cons_zero] at x0
  go_wp2_with fail
  refine hC.out.mono ?_
  rintro e v1 ⟨⟨q, M, d, rfl, hown⟩, hb2⟩
  have hM : M ≤ N := by rw [← hown.1]; exact hlen
  have hRM : Hid (R.length = M) := hown.1
  have hrow := Lib.hid (hown.row (by omega))
  have hb3 := Lib.hid (hb1.out.trans (hb2.mono hb1.out.size))
  clear hown hb2 hC hX x0 hlen
  go_wp2_with fail
  go_loopw [9] (fun s9 wr => ∃ k : Nat, s9 = .int .i64 k ∧ k ≤ M ∧ Hid (∀ x ∈ R.take k, ts.any (offS x) = true) ∧ Hid (Below v1.heap.size v1 wr)) (fun s9 _ => M - (intOf s9).toNat)
  case atStart => exact ⟨0, rfl, by omega, (show ∀ x ∈ R.take 0, ts.any (offS x) = true from fun x hx => by simp at hx), (show Below v1.heap.size v1 v1 from Below.refl _ _)⟩
  case round =>
    obtain ⟨k, rfl, hk, hoff, hb⟩ := hrel
    have ik0 : (0 : Int) ≤ (k : Int) := by omega
    by_cases hkM : k < M
    · have ik : (k : Int) < (M : Int) := by omega
      obtain ⟨x, g, o, hx, rfl, hc⟩ := rowDev_cell hrow.out hb.out hkM
      have hcY : Hid (∀ Y, Below wr.heap.size wr Y → ∀ (j : Nat) (u : Value), (devC x)[j]? = some u → Y.cell? ⟨g, o + k * 10 + j, none⟩ = some u) := fun Y h j u hu => (World.cell?_of_block (h.block g (World.block_lt_of_cell? wr ⟨g, o + k * 10 + 0, none⟩ (hc 0 _ rfl)))).trans (hc j u hu)
      have hxl : Hid (x ∈ l) := hmem.out x (List.mem_of_getElem? hx)
      have hx' := Lib.hid hx
      clear hx hc
      go_upto_block 2 with fail
      go_cut [10] (fun s10 wx => s10 = .bool (!(ts.any (offS x))) ∧ Hid (Below wr.heap.size wr wx))
      case first =>
        go_wp2_with fail
        go_loopw [10, 11] (fun s10 s11 wx => ∃ j : Nat, s10 = .bool (goodTo ts x j) ∧ s11 = .int .i64 j ∧ j ≤ tn ∧ Hid (Below wr.heap.size wr wx)) (fun _ s11 _ => tn - (intOf s11).toNat)
        case atStart => exact ⟨0, by simp [goodTo], rfl, by omega, (show Below wr.heap.size wr wr from Below.refl _ _)⟩
        case round =>
          obtain ⟨j, rfl, rfl, hj, hbx⟩ := hrel
          have ij0 : (0 : Int) ≤ (j : Int) := by omega
          by_cases hjn : j < tn
          · have ij : (j : Int) < (tn : Int) := by omega
            obtain ⟨t, g2, o2, ht, rfl, hg2, htc⟩ := Trm.at hts'.out hjn
            have hsucc := goodTo_succ (x := x) ht
            have htmem : t ∈ ts := List.mem_of_getElem? ht
            have hvs := htv'.out t htmem
            have hsucc' := Lib.hid hsucc
            have htc' := Lib.hid htc
            obtain ⟨tk, tn2, oo, tvv⟩ := t
            dsimp only at hsucc' htc' hvs
            clear hsucc htc ht htmem
            have hbW := Lib.hid (hb3.out.trans ((hb.out.trans (hbx.out.mono hb.out.size)).mono hb3.out.size))
            obtain ⟨G0, hG0⟩ : ∃ G0, goodTo ts x j = G0 := ⟨_, rfl⟩
            rw [hG0] at hsucc' ⊢
            have hG0' := Lib.hid hG0; clear hG0
            cases G0 with
            | false =>
              go_wp2_with fail
              go_quiet (fail)
              go_wp2_with fail
              go_roundw
              case rel => exact ⟨j + 1, by rw [hsucc'.out]; rfl, by go_num, by omega, below_drawN hbx.out _⟩
              case measure => simp [intOf]; omega
            | true =>
              have hU := Lib.hid (fun W => rupward_any tk tn2 oo tvv W)
              have hDv := Lib.hid (fun W (h : Below w.heap.size w W) => rdevice_any tk tn2 oo tvv x W (hl'.out.2 x hxl.out |>.below h) (hfit'.out x hxl.out) hvs)
              unfold termV at hU hDv
              unfold devV at hDv
              have hcW := Lib.hid (fun Y (h : Below wr.heap.size wr Y) => hcY.out Y (hbx.out.trans (h.mono hbx.out.size)))
              have hcW0 : Hid (∀ Y, Below wr.heap.size wr Y → Y.cell? ⟨g, o + k * 10, none⟩ = some (.int .i64 x.idx)) := fun Y h => hcW.out Y h 0 _ rfl
              have htW := Lib.hid (fun Y (h : Below wr.heap.size wr Y) => htc'.out Y (hbW.out.trans (h.mono hbW.out.size)))
              have hbWY := Lib.hid (fun Y (h : Below wr.heap.size wr Y) => hbW.out.trans (h.mono hbW.out.size))
              obtain ⟨t0, t1, t2, t3⟩ := htW.out wr (Below.refl _ _)
              have hd0 : Below wr.heap.size wr wr.drew := (Below.refl _ _).drew
              generalize upS' tk oo = U at *
              generalize devS tk tn2 oo tvv x = V at *
              cases U with
              | false =>
                go_upto_region 9 with fail
                have hSf : Hid (∀ Y, Below wr.heap.size wr Y → (Below wr.heap.size wr Y ∧ Y.cell? ⟨g2, o2 + j * 4, none⟩ = some (.int .i64 tk) ∧ Y.cell? ⟨g2, o2 + j * 4 + 1, none⟩ = some (.string tn2) ∧ Y.cell? ⟨g2, o2 + j * 4 + 2, none⟩ = some (.int .i64 oo) ∧ Y.cell? ⟨g2, o2 + j * 4 + 3, none⟩ = some (.string tvv) ∧ Y.cell? ⟨g, o + k * 10, none⟩ = some (.int .i64 x.idx) ∧ Y.cell? ⟨g, o + k * 10 + 1, none⟩ = some (.int .i64 x.par) ∧ Y.cell? ⟨g, o + k * 10 + 2, none⟩ = some (.string x.name) ∧ Y.cell? ⟨g, o + k * 10 + 3, none⟩ = some (.string x.orig) ∧ Y.cell? ⟨g, o + k * 10 + 4, none⟩ = some (.string x.sub) ∧ Y.cell? ⟨g, o + k * 10 + 5, none⟩ = some (.string x.drv) ∧ Y.cell? ⟨g, o + k * 10 + 6, none⟩ = some (.string x.ali) ∧ Y.cell? ⟨g, o + k * 10 + 7, none⟩ = some (.int .i64 x.kind) ∧ Y.cell? ⟨g, o + k * 10 + 8, none⟩ = some (.int .i64 x.num) ∧ Y.cell? ⟨g, o + k * 10 + 9, none⟩ = some (.slice x.aa x.an x.ac))) := fun Y h => by
                  have q := htW.out Y h
                  exact ⟨h, q.1, q.2.1, q.2.2.1, q.2.2.2, hcW0.out Y h, hcW.out Y h 1 _ rfl, hcW.out Y h 2 _ rfl, hcW.out Y h 3 _ rfl, hcW.out Y h 4 _ rfl, hcW.out Y h 5 _ rfl, hcW.out Y h 6 _ rfl, hcW.out Y h 7 _ rfl, hcW.out Y h 8 _ rfl, hcW.out Y h 9 _ rfl⟩
                have hS0 := hSf.out wr (Below.refl _ _)
                have hS1 := hSf.out wr.drew hd0
                clear t0 t1 t2 t3
                obtain ⟨q0, q1, q2, q3, q4, q5, q6, q7, q8, q9, q10, q11, q12, q13, q14⟩ := hS1
                clear hS0 q0
                refine wp_region_any (by kernel_rfl) ?_
                change wpAny _ _ _ _ _ _ _ (World.drew _)
                refine wpAny_take (i := 0) (v := ?_) rfl (by kernel_rfl) (by kernel_rfl) (by kernel_rfl) (fun _ _ _ h => h) (Or.inl ⟨by rfl, ?_⟩) ?_
                rotate_left
                · (intro w; go_simp) <;> with_reducible rfl
                refine wpAny_take (i := 1) (v := ?_) rfl (by kernel_rfl) (by kernel_rfl) (by kernel_rfl) (fun _ _ _ h => h) (Or.inl ⟨by rfl, ?_⟩) ?_
                rotate_left
                · (intro w; go_simp) <;> with_reducible rfl
                refine wpAny_take (i := 2) (v := ?_) rfl (by kernel_rfl) (by kernel_rfl) (by kernel_rfl) (fun _ _ _ h => h) (Or.inl ⟨by rfl, ?_⟩) ?_
                rotate_left
                · (intro w; go_simp) <;> with_reducible rfl
                refine wpAny_take (i := 3) (v := ?_) rfl (by kernel_rfl) (by kernel_rfl) (by kernel_rfl) (fun _ _ _ h => h) (Or.inl ⟨by rfl, ?_⟩) ?_
                rotate_left
                · (intro w; go_simp) <;> with_reducible rfl
                refine wpAny_take (i := 4) (v := ?_) rfl (by kernel_rfl) (by kernel_rfl) (by kernel_rfl) (fun _ _ _ h => h) (Or.inl ⟨by rfl, ?_⟩) ?_
                rotate_left
                · (intro w; go_simp) <;> with_reducible rfl
                refine wpAny_ready (rs := [5]) (by kernel_rfl) (by simp) ?_
                refine AllReady.cons rfl (fun K hK => ?_) AllReady.nil
                go_simp
                refine hK _ _ ?_
                clear hK K
                refine wpAny_ready (rs := [6]) (by kernel_rfl) (by simp) ?_
                refine AllReady.cons rfl (fun K hK => ?_) AllReady.nil
                go_simp
                go_at_call 24
                refine (hU.out _).mono ?_
                rintro e y1 ⟨rfl, hy1⟩
                have hbY := hd0.trans (hy1.mono hd0.size)
                obtain ⟨r0, r1, r2, r3, r4, r5, r6, r7, r8, r9, r10, r11, r12, r13, r14⟩ := hSf.out _ hbY
                try go_simp
                refine hK _ _ ?_
                clear hK K
                refine wpAny_take (i := 7) (v := ?_) rfl (by kernel_rfl) (by kernel_rfl) (by kernel_rfl) (fun _ _ _ h => h) (Or.inl ⟨by rfl, ?_⟩) ?_
                rotate_left
                · (intro w; go_simp) <;> with_reducible rfl
                refine wpAny_take (i := 8) (v := ?_) rfl (by kernel_rfl) (by kernel_rfl) (by kernel_rfl) (fun _ _ _ h => h) (Or.inl ⟨by rfl, ?_⟩) ?_
                rotate_left
                · (intro w; go_simp) <;> with_reducible rfl
                refine wpAny_take (i := 9) (v := undef) rfl (by kernel_rfl) (by kernel_rfl) (by kernel_rfl) (fun _ _ _ h => h) (Or.inr ⟨by rfl, rfl⟩) ?_
                refine wpAny_take (i := 10) (v := undef) rfl (by kernel_rfl) (by kernel_rfl) (by kernel_rfl) (fun _ _ _ h => h) (Or.inr ⟨by rfl, rfl⟩) ?_
                refine wpAny_take (i := 11) (v := undef) rfl (by kernel_rfl) (by kernel_rfl) (by kernel_rfl) (fun _ _ _ h => h) (Or.inr ⟨by rfl, rfl⟩) ?_
                refine wpAny_take (i := 13) (v := undef) rfl (by kernel_rfl) (by kernel_rfl) (by kernel_rfl) (fun _ _ _ h => h) (Or.inr ⟨by rfl, rfl⟩) ?_
                refine wpAny_take (i := 14) (v := undef) rfl (by kernel_rfl) (by kernel_rfl) (by kernel_rfl) (fun _ _ _ h => h) (Or.inr ⟨by rfl, rfl⟩) ?_
                refine wpAny_take (i := 15) (v := undef) rfl (by kernel_rfl) (by kernel_rfl) (by kernel_rfl) (fun _ _ _ h => h) (Or.inr ⟨by rfl, rfl⟩) ?_
                refine wpAny_ready (rs := [12, 16]) (by kernel_rfl) (by simp) ?_
                refine AllReady.cons rfl (fun K hK => ?_) (AllReady.cons rfl (fun K hK => ?_) AllReady.nil)
                · go_simp
                  refine hK _ _ ?_
                  clear hK K
                  refine wpAny_ready (rs := [16]) (by kernel_rfl) (by simp) ?_
                  refine AllReady.cons rfl (fun K hK => ?_) AllReady.nil
                  go_simp
                  refine hK _ _ ?_
                  clear hK K
                  refine wpAny_ready (rs := [17]) (by kernel_rfl) (by simp) ?_
                  refine AllReady.cons rfl (fun K hK => ?_) AllReady.nil
                  go_simp
                  refine hK _ _ ?_
                  clear hK K
                  refine wpAny_take (i := 18) (v := ?_) rfl (by kernel_rfl) (by kernel_rfl) (by kernel_rfl) (fun _ _ _ h => h) (Or.inl ⟨by rfl, ?_⟩) ?_
                  rotate_left
                  · (intro w; go_simp) <;> with_reducible rfl
                  refine wpAny_take (i := 19) (v := ?_) rfl (by kernel_rfl) (by kernel_rfl) (by kernel_rfl) (fun _ _ _ h => h) (Or.inl ⟨by rfl, ?_⟩) ?_
                  rotate_left
                  · (intro w; go_simp) <;> with_reducible rfl
                  refine wpAny_take (i := 20) (v := ?_) rfl (by kernel_rfl) (by kernel_rfl) (by kernel_rfl) (fun _ _ _ h => h) (Or.inl ⟨by rfl, ?_⟩) ?_
                  rotate_left
                  · (intro w; go_simp) <;> with_reducible rfl
                  refine wpAny_done (by kernel_rfl) ?_ _
                  have hbY' := Lib.hid (hbx.out.trans (hbY.mono hbx.out.size))
                  clear hbY hy1
                  go_wp2_with fail
                  go_roundw
                  case rel => exact ⟨j + 1, by rw [hsucc'.out]; rfl, by go_num, by omega, hbY'⟩
                  case measure => simp [intOf]; omega
                · go_simp
                  refine hK _ _ ?_
                  clear hK K
                  refine wpAny_ready (rs := [12]) (by kernel_rfl) (by simp) ?_
                  refine AllReady.cons rfl (fun K hK => ?_) AllReady.nil
                  go_simp
                  refine hK _ _ ?_
                  clear hK K
                  refine wpAny_ready (rs := [17]) (by kernel_rfl) (by simp) ?_
                  refine AllReady.cons rfl (fun K hK => ?_) AllReady.nil
                  go_simp
                  refine hK _ _ ?_
                  clear hK K
                  refine wpAny_take (i := 18) (v := ?_) rfl (by kernel_rfl) (by kernel_rfl) (by kernel_rfl) (fun _ _ _ h => h) (Or.inl ⟨by rfl, ?_⟩) ?_
                  rotate_left
                  · (intro w; go_simp) <;> with_reducible rfl
                  refine wpAny_take (i := 19) (v := ?_) rfl (by kernel_rfl) (by kernel_rfl) (by kernel_rfl) (fun _ _ _ h => h) (Or.inl ⟨by rfl, ?_⟩) ?_
                  rotate_left
                  · (intro w; go_simp) <;> with_reducible rfl
                  refine wpAny_take (i := 20) (v := ?_) rfl (by kernel_rfl) (by kernel_rfl) (by kernel_rfl) (fun _ _ _ h => h) (Or.inl ⟨by rfl, ?_⟩) ?_
                  rotate_left
                  · (intro w; go_simp) <;> with_reducible rfl
                  refine wpAny_done (by kernel_rfl) ?_ _
                  have hbY' := Lib.hid (hbx.out.trans (hbY.mono hbx.out.size))
                  clear hbY hy1
                  go_wp2_with fail
                  go_roundw
                  case rel => exact ⟨j + 1, by rw [hsucc'.out]; rfl, by go_num, by omega, hbY'⟩
                  case measure => simp [intOf]; omega
              | true =>
                go_upto_region 9 with fail
                have hSf : Hid (∀ Y, Below wr.heap.size wr Y → (Below wr.heap.size wr Y ∧ Y.cell? ⟨g2, o2 + j * 4, none⟩ = some (.int .i64 tk) ∧ Y.cell? ⟨g2, o2 + j * 4 + 1, none⟩ = some (.string tn2) ∧ Y.cell? ⟨g2, o2 + j * 4 + 2, none⟩ = some (.int .i64 oo) ∧ Y.cell? ⟨g2, o2 + j * 4 + 3, none⟩ = some (.string tvv) ∧ Y.cell? ⟨g, o + k * 10, none⟩ = some (.int .i64 x.idx) ∧ Y.cell? ⟨g, o + k * 10 + 1, none⟩ = some (.int .i64 x.par) ∧ Y.cell? ⟨g, o + k * 10 + 2, none⟩ = some (.string x.name) ∧ Y.cell? ⟨g, o + k * 10 + 3, none⟩ = some (.string x.orig) ∧ Y.cell? ⟨g, o + k * 10 + 4, none⟩ = some (.string x.sub) ∧ Y.cell? ⟨g, o + k * 10 + 5, none⟩ = some (.string x.drv) ∧ Y.cell? ⟨g, o + k * 10 + 6, none⟩ = some (.string x.ali) ∧ Y.cell? ⟨g, o + k * 10 + 7, none⟩ = some (.int .i64 x.kind) ∧ Y.cell? ⟨g, o + k * 10 + 8, none⟩ = some (.int .i64 x.num) ∧ Y.cell? ⟨g, o + k * 10 + 9, none⟩ = some (.slice x.aa x.an x.ac))) := fun Y h => by
                  have q := htW.out Y h
                  exact ⟨h, q.1, q.2.1, q.2.2.1, q.2.2.2, hcW0.out Y h, hcW.out Y h 1 _ rfl, hcW.out Y h 2 _ rfl, hcW.out Y h 3 _ rfl, hcW.out Y h 4 _ rfl, hcW.out Y h 5 _ rfl, hcW.out Y h 6 _ rfl, hcW.out Y h 7 _ rfl, hcW.out Y h 8 _ rfl, hcW.out Y h 9 _ rfl⟩
                have hS0 := hSf.out wr (Below.refl _ _)
                have hS1 := hSf.out wr.drew hd0
                clear t0 t1 t2 t3
                obtain ⟨q0, q1, q2, q3, q4, q5, q6, q7, q8, q9, q10, q11, q12, q13, q14⟩ := hS1
                clear hS0 q0
                refine wp_region_any (by kernel_rfl) ?_
                change wpAny _ _ _ _ _ _ _ (World.drew _)
                refine wpAny_take (i := 0) (v := ?_) rfl (by kernel_rfl) (by kernel_rfl) (by kernel_rfl) (fun _ _ _ h => h) (Or.inl ⟨by rfl, ?_⟩) ?_
                rotate_left
                · (intro w; go_simp) <;> with_reducible rfl
                refine wpAny_take (i := 1) (v := ?_) rfl (by kernel_rfl) (by kernel_rfl) (by kernel_rfl) (fun _ _ _ h => h) (Or.inl ⟨by rfl, ?_⟩) ?_
                rotate_left
                · (intro w; go_simp) <;> with_reducible rfl
                refine wpAny_take (i := 2) (v := ?_) rfl (by kernel_rfl) (by kernel_rfl) (by kernel_rfl) (fun _ _ _ h => h) (Or.inl ⟨by rfl, ?_⟩) ?_
                rotate_left
                · (intro w; go_simp) <;> with_reducible rfl
                refine wpAny_take (i := 3) (v := ?_) rfl (by kernel_rfl) (by kernel_rfl) (by kernel_rfl) (fun _ _ _ h => h) (Or.inl ⟨by rfl, ?_⟩) ?_
                rotate_left
                · (intro w; go_simp) <;> with_reducible rfl
                refine wpAny_take (i := 4) (v := ?_) rfl (by kernel_rfl) (by kernel_rfl) (by kernel_rfl) (fun _ _ _ h => h) (Or.inl ⟨by rfl, ?_⟩) ?_
                rotate_left
                · (intro w; go_simp) <;> with_reducible rfl
                refine wpAny_ready (rs := [5]) (by kernel_rfl) (by simp) ?_
                refine AllReady.cons rfl (fun K hK => ?_) AllReady.nil
                go_simp
                refine hK _ _ ?_
                clear hK K
                refine wpAny_ready (rs := [6]) (by kernel_rfl) (by simp) ?_
                refine AllReady.cons rfl (fun K hK => ?_) AllReady.nil
                go_simp
                go_at_call 24
                refine (hU.out _).mono ?_
                rintro e y1 ⟨rfl, hy1⟩
                have hbY := hd0.trans (hy1.mono hd0.size)
                obtain ⟨r0, r1, r2, r3, r4, r5, r6, r7, r8, r9, r10, r11, r12, r13, r14⟩ := hSf.out _ hbY
                try go_simp
                refine hK _ _ ?_
                clear hK K
                refine wpAny_take (i := 7) (v := ?_) rfl (by kernel_rfl) (by kernel_rfl) (by kernel_rfl) (fun _ _ _ h => h) (Or.inl ⟨by rfl, ?_⟩) ?_
                rotate_left
                · (intro w; go_simp) <;> with_reducible rfl
                refine wpAny_take (i := 8) (v := ?_) rfl (by kernel_rfl) (by kernel_rfl) (by kernel_rfl) (fun _ _ _ h => h) (Or.inl ⟨by rfl, ?_⟩) ?_
                rotate_left
                · (intro w; go_simp) <;> with_reducible rfl
                refine wpAny_take (i := 9) (v := ?_) rfl (by kernel_rfl) (by kernel_rfl) (by kernel_rfl) (fun _ _ _ h => h) (Or.inl ⟨by rfl, ?_⟩) ?_
                rotate_left
                · (intro w; go_simp) <;> with_reducible rfl
                refine wpAny_take (i := 10) (v := ?_) rfl (by kernel_rfl) (by kernel_rfl) (by kernel_rfl) (fun _ _ _ h => h) (Or.inl ⟨by rfl, ?_⟩) ?_
                rotate_left
                · (intro w; go_simp) <;> with_reducible rfl
                refine wpAny_take (i := 11) (v := ?_) rfl (by kernel_rfl) (by kernel_rfl) (by kernel_rfl) (fun _ _ _ h => h) (Or.inl ⟨by rfl, ?_⟩) ?_
                rotate_left
                · (intro w; go_simp) <;> with_reducible rfl
                refine wpAny_take (i := 13) (v := ?_) rfl (by kernel_rfl) (by kernel_rfl) (by kernel_rfl) (fun _ _ _ h => h) (Or.inl ⟨by rfl, ?_⟩) ?_
                rotate_left
                · (intro w; go_simp) <;> with_reducible rfl
                refine wpAny_take (i := 14) (v := ?_) rfl (by kernel_rfl) (by kernel_rfl) (by kernel_rfl) (fun _ _ _ h => h) (Or.inl ⟨by rfl, ?_⟩) ?_
                rotate_left
                · (intro w; go_simp) <;> with_reducible rfl
                refine wpAny_take (i := 15) (v := ?_) rfl (by kernel_rfl) (by kernel_rfl) (by kernel_rfl) (fun _ _ _ h => h) (Or.inl ⟨by rfl, ?_⟩) ?_
                rotate_left
                · (intro w; go_simp) <;> with_reducible rfl
                refine wpAny_ready (rs := [12, 16]) (by kernel_rfl) (by simp) ?_
                refine AllReady.cons rfl (fun K hK => ?_) (AllReady.cons rfl (fun K hK => ?_) AllReady.nil)
                · go_simp
                  refine hK _ _ ?_
                  clear hK K
                  refine wpAny_ready (rs := [16]) (by kernel_rfl) (by simp) ?_
                  refine AllReady.cons rfl (fun K hK => ?_) AllReady.nil
                  go_simp
                  refine hK _ _ ?_
                  clear hK K
                  refine wpAny_ready (rs := [17]) (by kernel_rfl) (by simp) ?_
                  refine AllReady.cons rfl (fun K hK => ?_) AllReady.nil
                  go_simp
                  go_at_call 25
                  refine (hDv.out _ (hbWY.out _ hbY)).mono ?_
                  rintro e y2 ⟨rfl, hy2⟩
                  have hbZ := hbY.trans (hy2.mono hbY.size)
                  try go_simp
                  refine hK _ _ ?_
                  clear hK K
                  refine wpAny_take (i := 18) (v := ?_) rfl (by kernel_rfl) (by kernel_rfl) (by kernel_rfl) (fun _ _ _ h => h) (Or.inl ⟨by rfl, ?_⟩) ?_
                  rotate_left
                  · (intro w; go_simp) <;> with_reducible rfl
                  refine wpAny_take (i := 19) (v := ?_) rfl (by kernel_rfl) (by kernel_rfl) (by kernel_rfl) (fun _ _ _ h => h) (Or.inl ⟨by rfl, ?_⟩) ?_
                  rotate_left
                  · (intro w; go_simp) <;> with_reducible rfl
                  refine wpAny_take (i := 20) (v := ?_) rfl (by kernel_rfl) (by kernel_rfl) (by kernel_rfl) (fun _ _ _ h => h) (Or.inl ⟨by rfl, ?_⟩) ?_
                  rotate_left
                  · (intro w; go_simp) <;> with_reducible rfl
                  refine wpAny_done (by kernel_rfl) ?_ _
                  have hbZ' := Lib.hid (hbx.out.trans (hbZ.mono hbx.out.size))
                  clear hbZ hbY hy1 hy2
                  go_wp2_with fail
                  go_roundw
                  case rel => exact ⟨j + 1, by rw [hsucc'.out]; cases V <;> rfl, by go_num, by omega, hbZ'⟩
                  case measure => simp [intOf]; omega
                · go_simp
                  refine hK _ _ ?_
                  clear hK K
                  refine wpAny_ready (rs := [12]) (by kernel_rfl) (by simp) ?_
                  refine AllReady.cons rfl (fun K hK => ?_) AllReady.nil
                  go_simp
                  refine hK _ _ ?_
                  clear hK K
                  refine wpAny_ready (rs := [17]) (by kernel_rfl) (by simp) ?_
                  refine AllReady.cons rfl (fun K hK => ?_) AllReady.nil
                  go_simp
                  go_at_call 25
                  refine (hDv.out _ (hbWY.out _ hbY)).mono ?_
                  rintro e y2 ⟨rfl, hy2⟩
                  have hbZ := hbY.trans (hy2.mono hbY.size)
                  try go_simp
                  refine hK _ _ ?_
                  clear hK K
                  refine wpAny_take (i := 18) (v := ?_) rfl (by kernel_rfl) (by kernel_rfl) (by kernel_rfl) (fun _ _ _ h => h) (Or.inl ⟨by rfl, ?_⟩) ?_
                  rotate_left
                  · (intro w; go_simp) <;> with_reducible rfl
                  refine wpAny_take (i := 19) (v := ?_) rfl (by kernel_rfl) (by kernel_rfl) (by kernel_rfl) (fun _ _ _ h => h) (Or.inl ⟨by rfl, ?_⟩) ?_
                  rotate_left
                  · (intro w; go_simp) <;> with_reducible rfl
                  refine wpAny_take (i := 20) (v := ?_) rfl (by kernel_rfl) (by kernel_rfl) (by kernel_rfl) (fun _ _ _ h => h) (Or.inl ⟨by rfl, ?_⟩) ?_
                  rotate_left
                  · (intro w; go_simp) <;> with_reducible rfl
                  refine wpAny_done (by kernel_rfl) ?_ _
                  have hbZ' := Lib.hid (hbx.out.trans (hbZ.mono hbx.out.size))
                  clear hbZ hbY hy1 hy2
                  go_wp2_with fail
                  go_roundw
                  case rel => exact ⟨j + 1, by rw [hsucc'.out]; cases V <;> rfl, by go_num, by omega, hbZ'⟩
                  case measure => simp [intOf]; omega
          · obtain rfl : j = tn := by omega
            have hall : goodTo ts x j = !(ts.any (offS x)) := by unfold goodTo; rw [List.take_of_length_le (by have := htn'.out; omega)]
            have hall' := Lib.hid hall; clear hall
            go_wp2_with fail
            go_meet
            case rel => exact ⟨by rw [hall'.out], hbx⟩
      case rest =>
        obtain ⟨rfl, hbx⟩ := hcut
        generalize wc = v3 at *
        have hb5 := Lib.hid (hb.out.trans (hbx.out.mono hb.out.size))
        have c0 := hcY.out v3 hbx.out 0 _ rfl
        rw [Nat.add_zero] at c0
        obtain ⟨B, hB⟩ : ∃ B, ts.any (offS x) = B := ⟨_, rfl⟩
        rw [hB]
        have hB' := Lib.hid hB; clear hB
        cases B with
        | false =>
          have hans : Hid (ancR ts R = (x.idx, true)) := by
            unfold ancR
            have : R.find? (fun x => !ts.any (offS x)) = some x := by
              rw [List.find?_eq_some_iff_getElem]
              refine ⟨by rw [hB'.out]; rfl, k, (List.getElem?_eq_some_iff.1 hx'.out).1, (List.getElem?_eq_some_iff.1 hx'.out).2, fun j hj => ?_⟩
              have hjl : j < R.length := by have := (List.getElem?_eq_some_iff.1 hx'.out).1; omega
              have := hoff.out (R[j]) (List.mem_take_iff_getElem.2 ⟨j, by omega, rfl⟩)
              simpa using this
            rw [this]
            exact (rfl : _ = _)
          clear hoff
          go_wp2_with fail
          go_ret2
          exact ⟨by show _ = _; rw [hans.out]; rfl, hb3.out.trans (hb5.out.mono hb3.out.size)⟩
        | true =>
          have hoff2 : Hid (∀ x ∈ R.take (k + 1), ts.any (offS x) = true) := fun y hy => by
            rw [List.take_add_one, hx'.out] at hy
            rcases List.mem_append.1 hy with hy | hy
            · exact hoff.out y hy
            · simp at hy; subst hy; exact hB'.out
          clear hoff
          go_wp2_with fail
          go_roundw
          case rel => exact ⟨k + 1, by go_num, by omega, hoff2, hb5⟩
          case measure => simp [intOf]; omega
    · obtain rfl : k = M := by omega
      have hans : Hid (ancR ts R = (0, false)) := by
        unfold ancR
        have : R.find? (fun x => !ts.any (offS x)) = none := by
          rw [List.find?_eq_none]
          intro x hx
          rw [hoff.out x (by rw [List.take_of_length_le (by have := hRM.out; omega)]; exact hx)]
          simp
        rw [this]
        exact (rfl : _ = _)
      clear hoff
      go_wp2_with fail
      go_ret2
      exact ⟨by show _ = _; rw [hans.out]; rfl, hb3.out.trans (hb.out.mono hb3.out.size)⟩

end Go.Proofs.YtinjeijjfkkhbaaGreatDoor
