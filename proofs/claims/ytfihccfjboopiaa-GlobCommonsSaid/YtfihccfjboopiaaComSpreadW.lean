/-
  THE WALK of glob's (*search).spread, the walk itself.
-/
import Derived.Test.YtfihccfjboopiaaComSpread
namespace Go.Proofs.Ytfihccfjboopiaa
open Go.RowKit Go.Maps

theorem own_cap {w : World} {B : Nat} {e : TypeId} {size n g cap : Nat} {xs : List Value} (h : w.ownsRow B e size (.slice (some ⟨g, 0, none⟩) n cap) n xs) : n ≤ cap := by
  obtain ⟨_, h2⟩ := h
  rcases h2 with ⟨h0, _⟩ | ⟨g', cap', cur, hv, hg, hh, hn, hcap, hsz, htake⟩
  · cases h0
  · cases hv
    omega
theorem own_ne_map {w : World} {B mb : Nat} {e : TypeId} {size n : Nat} {v : Value} {xs : List Value} (h : w.ownsRow B e size v n xs) (hm : ∃ es c, w.heap[mb]? = some (.map es c)) : v.ownBlock ≠ some mb := by
  intro hg
  obtain ⟨es, c, hm⟩ := hm
  rcases h.2 with ⟨rfl, _⟩ | ⟨k, cap, cur, rfl, _, hk, _⟩
  · cases hg
  · simp only [Value.ownBlock, Option.some.injEq] at hg
    subst hg
    rw [hm] at hk
    cases hk
theorem grown_is {w w' : World} {k : Nat} (h : w.grownBy w' (some k)) : Only (fun i => i = k) w w' := (only_grown h).mono fun _ e => (Option.some.inj e).symm

/-- What 'spread' answers. -/
def SprPost (P Q : List (List G.El)) (mb : Nat) (n : Nat) (xs : List G.Pos) (lv : Value) (w : World) (e : Ending) (w' : World) : Prop :=
  ∃ v ys K', e = .returned v ∧ Poss w' w.heap.size v ys ∧ Only (SpW mb lv) w w' ∧ Costs w' mb P Q K' ∧ SprEnd P Q n xs ys

/-- What holds at the head of its loop. -/
def SprAt (P Q : List (List G.El)) (mb sm n B0 : Nat) (xs : List G.Pos) (lv : Value) (w : World) (gk : Nat) (s1 s8 : Value) (wr : World) : Prop :=
  ∃ (st ys : List G.Pos) (K' S : G.Pos → Bool), Poss wr B0 s1 st ∧ Poss wr w.heap.size s8 ys ∧ Only (SpW mb lv) w wr ∧ Costs wr mb P Q K' ∧ Seen wr sm P Q S ∧ SprInv P Q n xs st ys S ∧
    (∀ g, s1.ownBlock = some g → s8.ownBlock ≠ some g) ∧ (∀ g, s1.ownBlock = some g → lv.ownBlock = some g ∨ w.heap.size ≤ g) ∧ cntK S + cntK S + st.length ≤ gk

set_option maxRecDepth 100000 in
set_option maxHeartbeats 4000000 in
theorem spread_any (P Q : List (List G.El)) (B sb mb B0 n : Nat) (vp vq lv : Value) (hf : Few P Q) (xs : List G.Pos) (K : G.Pos → Bool) (w : World) (hs : Sch w B sb mb vp vq P Q) (hk : Costs w mb P Q K) (hl : Poss w B0 lv xs) (hB0 : B0 ≤ w.heap.size)
    (hin : ∀ x, x ∈ xs → G.InP P Q x) (hlen : xs.length ≤ manyN) (hn : n ≤ 1000) :
    Calls Try.prog 48 #[.pointer (some ⟨sb, 0, none⟩), lv, .int .i64 n] w (SprPost P Q mb n xs lv w) := by
  obtain ⟨i0, hi0, hz0, hz1, hz2⟩ := info_parts info_pair
  have hmm := @run_makeMap Try.prog
  have hmb := hk.lt
  have hmany := manyN_eq
  have start : SprAt P Q mb w.heap.size n B0 xs lv w (manyN + manyN + manyN) lv (.slice none 0 0) (w.alloc (.map #[] 0)) :=
    ⟨xs, [], K, fun _ => false, World.ownsRow.alloc hl _, World.ownsRow_nil _ _ _ _, (Only.refl _ _).alloc _, hk.heap (Below.heap_alloc _ _ _ hmb), Seen.start _ _ _, SprInv.start hin hlen, fun g h => (by intro h2; cases h2), fun g h => .inl h, by
      have := cntK_le fun _ => false
      omega⟩
  have start' := Lib.hid start; clear start
  have hs' := Lib.hid hs; clear hs
  have hk' := Lib.hid hk; clear hk
  have hl' := Lib.hid hl; clear hl
  have hin' := Lib.hid hin; clear hin
  have hmany' := Lib.hid hmany; clear hmany
  obtain ⟨lp, lc, hlv⟩ : ∃ p c, lv = .slice p xs.length c := by
    obtain ⟨p, c, h, _⟩ := poss_form hl'.out
    exact ⟨p, c, h⟩
  have hlv' := Lib.hid hlv; clear hlv
  go_enter Try.func48, Try.ntmps48
  go_wp2_with fail
  go_loopg [1, 8] (manyN + manyN + manyN) (fun gk s1 s8 wr => SprAt P Q mb w.heap.size n B0 xs lv w gk s1 s8 wr)
  case atStart => exact start'.out
  case round =>
    clear start'
    obtain ⟨st, ys, K', S, r1, r2, r3, r4, r5, r6, r7, r8, r9⟩ := hrel
    obtain ⟨p, cap, hp, hpf⟩ := poss_form r1
    subst hp
    rcases List.eq_nil_or_concat st with rfl | ⟨st2, x, rfl⟩
    · have hend := r6.end_
      have hend' := Lib.hid hend; clear hend
      have r2' := Lib.hid r2; clear r2
      have r3' := Lib.hid r3; clear r3
      have r4' := Lib.hid r4; clear r4 r1 r5 r6 r7 r8 r9 hpf hmm
      go_wp2_with fail
      go_ret
      exact ⟨_, ys, K', rfl, r2'.out, r3'.out, r4'.out, hend'.out⟩
    · rw [List.concat_eq_append] at *
      obtain ⟨g, rfl⟩ := hpf st2.length x (by simp)
      obtain ⟨m, hm⟩ : ∃ m, m = st2.length := ⟨_, rfl⟩
      have hl1 : (st2 ++ [x]).length = m + 1 := by rw [hm]; simp
      have hcell : wr.cell? ⟨g, m * 4, none⟩ = some (.int .i64 x.a) ∧ wr.cell? ⟨g, m * 4 + 1, none⟩ = some (.int .i64 x.i) ∧ wr.cell? ⟨g, m * 4 + 2, none⟩ = some (.int .i64 x.b) ∧ wr.cell? ⟨g, m * 4 + 3, none⟩ = some (.int .i64 x.j) :=
        poss_cell r1 (by rw [hm]; simp)
      obtain ⟨y0, y1, y2, y3⟩ := hcell
      have hcp0 := own_cap r1
      have hws := r5.lt
      have hglt := (World.ownsRow.lt r1 g rfl).2
      have hu8 : ∀ g', Value.ownBlock _ = some g' → w.heap.size ≤ g' ∧ g' < wr.heap.size := fun g' h => World.ownsRow.lt r2 g' h
      have hu8' := Lib.hid hu8; clear hu8
      rw [hl1] at r1 r7 r8 r9 ⊢
      have r1b : Poss wr B0 (.slice (some ⟨g, 0, none⟩) m cap) st2 := by rw [hm] at r1 ⊢; exact poss_pop r1
      have hix := (r6.inSt x (by simp)).1
      have hsx := hf.small hix
      have hm2 : m ≤ 9000000000 := by have := r6.len2; rw [hl1, hmany'.out] at this; omega
      have hcp : m + 1 ≤ cap := by rw [← hl1]; exact hcp0
      have hcp2 : m ≤ cap := by omega
      have hm0 : (0 : Int) ≤ (m : Int) := by omega
      have hm1 : (m : Int) < (m : Int) + 1 := by omega
      have hlook := Seen.look (r5.heap (Below.heap_alloc wr (.cells #[.int .i64 x.a, .int .i64 x.i, .int .i64 x.b, .int .i64 x.j] 86) w.heap.size r5.lt)) hix hsx
      have r1' := Lib.hid r1b; clear r1 r1b
      have r2' := Lib.hid r2; clear r2
      have r3' := Lib.hid r3; clear r3
      have r4' := Lib.hid r4; clear r4
      have r5' := Lib.hid r5; clear r5
      have r6' := Lib.hid r6; clear r6
      have r7' := Lib.hid r7; clear r7
      have r8' := Lib.hid r8; clear r8
      have r9' := Lib.hid r9; clear r9 hpf hmm
      have hm' := Lib.hid hm; clear hm
      have hl1' := Lib.hid hl1; clear hl1
      have hix' := Lib.hid hix; clear hix
      have hsx' := Lib.hid hsx; clear hsx
      cases hSx : S x with
      | true =>
        rw [hSx] at hlook
        have hSx' := Lib.hid hSx; clear hSx
        go_wp2_with fail
        go_roundg (cntK S + cntK S + m)
        case measure => have := r9'.out; omega
        case rel => exact ⟨st2, ys, K', S, by rw [hm'.out] at r1' ⊢; exact World.ownsRow.alloc r1'.out _, World.ownsRow.alloc r2'.out _, r3'.out.alloc _, r4'.out.heap (Below.heap_alloc _ _ _ r4'.out.lt), r5'.out.heap (Below.heap_alloc _ _ _ r5'.out.lt), r6'.out.drop (.inl hSx'.out), fun g' hg' => r7'.out g' hg', fun g' hg' => r8'.out g' hg', by rw [hm'.out]; exact Nat.le_refl _⟩
      | false =>
        rw [hSx] at hlook
        have hSx' := Lib.hid hSx; clear hSx
        have isM := r4'.out.isMap
        have isM2 : ∃ es c, (wr.alloc (.cells #[.int .i64 x.a, .int .i64 x.i, .int .i64 x.b, .int .i64 x.j] 86)).heap[mb]? = some (.map es c) := by rw [Below.heap_alloc _ _ _ r4'.out.lt]; exact isM
        have hSch : Sch (wr.alloc (.cells #[.int .i64 x.a, .int .i64 x.i, .int .i64 x.b, .int .i64 x.j] 86)) B sb mb vp vq P Q := hs'.out.only2 hk'.out.isMap hl'.out (r3'.out.alloc _)
        have hcall := cost_any P Q B sb mb vp vq hf _ x K' _ (Nat.le_refl _) hix'.out hSch (r4'.out.heap (Below.heap_alloc _ _ _ r4'.out.lt))
        unfold posV at hcall
        have hcall' := Lib.hid hcall; clear hcall hSch
        have isM' := Lib.hid isM; clear isM
        have isM2' := Lib.hid isM2; clear isM2
        go_wp2_with fail
        refine hcall'.out.mono ?_
        rintro e w2 ⟨he, q1, K2, q3, _⟩
        obtain ⟨cv, hcv⟩ : ∃ z, z = G.toI (G.cOf P Q x) := ⟨_, rfl⟩
        rw [← hcv] at he
        subst he
        have smb : w.heap.size ≠ mb := by omega
        have b2 := poss_map (World.ownsRow.alloc r2'.out (.cells #[.int .i64 x.a, .int .i64 x.i, .int .i64 x.b, .int .i64 x.j] 86)) isM2'.out q1
        have b1 := own_map (World.ownsRow.alloc r1'.out (.cells #[.int .i64 x.a, .int .i64 x.i, .int .i64 x.b, .int .i64 x.j] 86)) isM2'.out q1
        have b3 : Only (SpW mb lv) w w2 := (r3'.out.alloc (.cells #[.int .i64 x.a, .int .i64 x.i, .int .i64 x.b, .int .i64 x.j] 86)).step q1 fun i hi => .inl (.inl hi)
        have b5 : Seen w2 w.heap.size P Q S := (r5'.out.heap (Below.heap_alloc wr (.cells #[.int .i64 x.a, .int .i64 x.i, .int .i64 x.b, .int .i64 x.j] 86) w.heap.size r5'.out.lt)).only q1 smb
        have bx : Blk w2 wr.heap.size 86 #[.int .i64 x.a, .int .i64 x.i, .int .i64 x.b, .int .i64 x.j] := (Blk.new wr _ _).only q1 (by have := r4'.out.lt; omega)
        have hsz2 : wr.heap.size < w2.heap.size := bx.lt
        clear hcall' isM' isM2' q1 r1' r2' r3' r4' r5'
        have q3' := Lib.hid q3; clear q3
        have b1' := Lib.hid b1; clear b1
        have b2' := Lib.hid b2; clear b2
        have b3' := Lib.hid b3; clear b3
        have b5' := Lib.hid b5; clear b5
        by_cases hc : G.cOf P Q x = some n
        · have hcn : (cv != (n : Int)) = false := by rw [hcv, hc]; simp [G.toI]
          have hcv' := Lib.hid hcv; clear hcv
          have hc' := Lib.hid hc; clear hc
          obtain ⟨nd, D, ho, hh, hnn⟩ := b5'.out
          have hnm : nd < maxLen := by
            rw [hmany'.out] at hnn
            unfold maxLen
            omega
          have hh' := Lib.hid hh; clear hh
          have hnn' := Lib.hid hnn; clear hnn
          have ho' := Lib.hid ho; clear ho
          have k0 := (bx.cell 0).trans rfl
          have k1 := (bx.cell 1).trans rfl
          have k2 := (bx.cell 2).trans rfl
          have k3 := (bx.cell 3).trans rfl
          have bx' := Lib.hid bx; clear bx
          have hyl : ys.length ≤ 4362470401 := by have := r6'.out.len1; rw [hmany'.out] at this; omega
          have isS := b5'.out.isMap
          have isS' := Lib.hid isS; clear isS
          go_wp2_with (first
            | (at_mapUpdate
               refine wpList_mapUpdate_own _ rfl _ _ _ 126 rfl 86 4 lawP Try.underlying126 _ w.heap.size nd D rfl ho'.out hnm _ _ (keyL x) rfl rfl (key_pos hsx'.out) (.lit (.bool true)) [] (plainElem_bool Try.underlying4 true) ?_
               intro w3 hown3 hgrow3
               have o3 := grown_is hgrow3
               have x3 := bx'.out.only o3 (by omega)
               have p0 := (x3.cell 0).trans rfl
               have p1 := (x3.cell 1).trans rfl
               have p2 := (x3.cell 2).trans rfl
               have p3 := (x3.cell 3).trans rfl
               have d1 := own_map b1'.out isS'.out o3
               have d2 := poss_map b2'.out isS'.out o3
               have d3 : Only (SpW mb lv) w w3 := b3'.out.step o3 fun i hi => .inr (by omega)
               have d4 := q3'.out.only o3 (by omega)
               have d5 := Seen.put hf hix'.out hSx'.out ho'.out.isMap hh'.out hnn'.out hown3
               have hz3 := o3.size
               clear k0 k1 k2 k3 hown3 hgrow3 o3
               have x3' := Lib.hid x3; clear x3
               have d1' := Lib.hid d1; clear d1
               have d2' := Lib.hid d2; clear d2
               have d3' := Lib.hid d3; clear d3
               have d4' := Lib.hid d4; clear d4
               have d5' := Lib.hid d5; clear d5)
            | (at_builtin
               refine wpList_append_lies _ rfl (.tmp 37) (.tmp 39) 82 rfl w.heap.size 86 i0 _ 4 32 Try.underlying82 hi0 hz0 hz1 hz2 rfl (by omega) _ ys.length (ys.flatMap posL) rfl (World.ownsRow.alloc d2'.out _) ⟨w3.heap.size, 0, none⟩ 1 1 (posL x) rfl rfl (pos_new w3 x) (posL_one x) (by omega) (by unfold maxLen; omega) (by omega) (by simp; omega) (w3.heap.size + 1) (by simp) ?_
               intro ga capa w4 own4 grow4 lies4 lt4
               have o4 := only_grown grow4
               have hz4 : w3.heap.size + 1 ≤ w4.heap.size := by (have h := grow4.size; simp at h; omega)
               have x4 := (x3'.out.alloc (.cells #[.int .i64 x.a, .int .i64 x.i, .int .i64 x.b, .int .i64 x.j] 86)).only o4 (fun e => by have := hu8'.out _ e; omega)
               have p0 := (x4.cell 0).trans rfl
               have p1 := (x4.cell 1).trans rfl
               have p2 := (x4.cell 2).trans rfl
               have p3 := (x4.cell 3).trans rfl
               have e1 := own_only (World.ownsRow.alloc d1'.out (.cells #[.int .i64 x.a, .int .i64 x.i, .int .i64 x.b, .int .i64 x.j] 86)) o4 (fun g' hg' e => r7'.out g' hg' e)
               have e3 : Only (SpW mb lv) w w4 := (d3'.out.alloc (.cells #[.int .i64 x.a, .int .i64 x.i, .int .i64 x.b, .int .i64 x.j] 86)).step o4 fun i hi => .inr (hu8'.out i hi).1
               have e4 := (d4'.out.heap (Below.heap_alloc w3 (.cells #[.int .i64 x.a, .int .i64 x.i, .int .i64 x.b, .int .i64 x.j] 86) mb d4'.out.lt)).only o4 (fun e => by have := hu8'.out _ e; omega)
               have e5 := (d5'.out.heap (Below.heap_alloc w3 (.cells #[.int .i64 x.a, .int .i64 x.i, .int .i64 x.b, .int .i64 x.j] 86) w.heap.size d5'.out.lt)).only o4 (fun e => own_ne_map d2'.out d5'.out.isMap e)
               clear x3' d1' d2' d3' d4' d5' grow4 o4 x4
               have own4' := Lib.hid own4; clear own4
               have lies4' := Lib.hid lies4; clear lies4
               have e1' := Lib.hid e1; clear e1
               have e3' := Lib.hid e3; clear e3
               have e4' := Lib.hid e4; clear e4
               have e5' := Lib.hid e5; clear e5)
            | fail)
          have hSch := hs'.out.only2 hk'.out.isMap hl'.out e3'.out
          have hSk := skips_any P Q B sb mb vp vq x w4 hSch hix'.out (hf.sm hix'.out)
          unfold posV at hSk
          refine hSk.mono ?_
          clear hSk hSch
          rintro e w5 ⟨v, rfl, hpo, hbl⟩
          have hsk2 : (G.skipsOf P Q x).length ≤ 2 := by
            unfold G.skipsOf
            rw [List.length_append]
            split <;> split <;> simp
          have hinv := r6'.out.mark hf hSx'.out hc'.out
          have hcnt := cntK_with hSx'.out (hf.pos hix'.out).1 (hf.pos hix'.out).2.1 (hf.pos hix'.out).2.2.1 (hf.pos hix'.out).2.2.2
          have f1 := own_below e1'.out hbl
          have f2 : Poss w5 w.heap.size (.slice (some ⟨ga, 0, none⟩) (ys.length + 1) capa) (ys ++ [x]) := by
            unfold Poss
            rw [List.length_append, List.length_singleton, ← flat_snoc]
            exact own_below own4'.out hbl
          have f3 : Only (SpW mb lv) w w5 := e3'.out.step (S' := fun _ => False) (Only.of_below hbl fun k h1 h2 => by omega) fun i hi => hi.elim
          have f4 : Costs w5 mb P Q K2 := e4'.out.heap (hbl.block mb e4'.out.lt)
          have f5 : Seen w5 w.heap.size P Q (withK S x) := e5'.out.heap (hbl.block w.heap.size e5'.out.lt)
          have hz5 := hbl.size
          have hgal := own4'.out
          have hgal2 := (World.ownsRow.lt hgal ga rfl).2
          clear hgal
          have hga : ga ≠ g := by
            intro e
            rcases lies4'.out with h | h
            · exact r7'.out g rfl (h.trans (congrArg some e))
            · omega
          clear own4' lies4' e1' e3' e4' e5' p0 p1 p2 p3
          have f1' := Lib.hid f1; clear f1
          have f2' := Lib.hid f2; clear f2
          have f3' := Lib.hid f3; clear f3
          have f4' := Lib.hid f4; clear f4
          have f5' := Lib.hid f5; clear f5 hbl
          have hinv' := Lib.hid hinv; clear hinv
          obtain ⟨sk, hsk⟩ : ∃ z, z = G.skipsOf P Q x := ⟨_, rfl⟩
          rw [← hsk] at hpo hsk2
          have hsk' := Lib.hid hsk; clear hsk
          rcases poss_cases hpo with ⟨rfl, hnil⟩ | ⟨gv, cv2, rfl, hcells⟩
          · have hnil' := Lib.hid hnil; clear hnil hpo
            go_wp2_with (at_builtin; refine wpList_append_own_none rfl (.tmp 41) (.tmp 44) 82 rfl B0 86 i0 4 Try.underlying82 hi0 (.slice (some ⟨g, 0, none⟩) m cap) m (st2.flatMap posL) rfl (by have h := f1'.out; rw [← hm'.out] at h; exact h) rfl ?_)
            go_roundg (cntK (withK S x) + cntK (withK S x) + m)
            case measure => have := r9'.out; omega
            case rel =>
              refine ⟨st2, ys ++ [x], K2, withK S x, ?_, f2'.out, f3'.out, f4'.out, f5'.out, ?_, fun g' hg' h => ?_, fun g' hg' => r8'.out g' hg', by rw [hm'.out]; exact Nat.le_refl _⟩
              · exact f1'.out
              · have h := hinv'.out
                rw [← hsk'.out, hnil'.out, List.append_nil] at h
                exact h
              · simp only [Value.ownBlock, Option.some.injEq] at hg' h
                omega
          · have hsl := length_flat_pos sk
            have hone := flat_one sk
            have hcells' := Lib.hid hcells; clear hcells hpo
            have hsl' := Lib.hid hsl; clear hsl
            have hone' := Lib.hid hone; clear hone
            go_wp2_with (at_builtin; refine wpList_append_own_at _ rfl (.tmp 41) (.tmp 44) 82 rfl B0 86 i0 _ 4 32 Try.underlying82 hi0 hz0 hz1 hz2 rfl (by omega) (.slice (some ⟨g, 0, none⟩) m cap) m (st2.flatMap posL) rfl (by have h := f1'.out; rw [← hm'.out] at h; exact h) ⟨gv, 0, none⟩ sk.length cv2 (sk.flatMap posL) rfl hsl'.out hcells'.out hone'.out (by unfold maxLen; omega) (by omega) (by omega) ?_; intro v6 w6 own6 grow6 hnil6 hloc6; have own6' := Lib.hid own6; clear own6; have grow6' := Lib.hid grow6; clear grow6; have hloc6' := Lib.hid hloc6; clear hloc6 hnil6)
            go_roundg (cntK (withK S x) + cntK (withK S x) + (m + sk.length))
            case measure => have := r9'.out; omega
            case rel =>
              refine ⟨st2 ++ sk, ys ++ [x], K2, withK S x, ?_, ?_, ?_, ?_, ?_, ?_, fun g' hg' h => ?_, fun g' hg' => ?_, ?_⟩
              · have h := own6'.out
                unfold Poss
                rw [List.length_append, ← hm'.out, List.flatMap_append]
                exact h
              · exact own_only f2'.out (only_grown grow6'.out) (fun g' hg' e => by
                  simp only [Value.ownBlock, Option.some.injEq] at hg' e
                  omega)
              · refine f3'.out.step (only_grown grow6'.out) fun i hi => ?_
                rcases r8'.out i hi with h | h
                · exact .inl (.inr h)
                · exact .inr h
              · exact f4'.out.only (only_grown grow6'.out) (fun e => own_ne_map f1'.out f4'.out.isMap e)
              · exact f5'.out.only (only_grown grow6'.out) (fun e => own_ne_map f1'.out f5'.out.isMap e)
              · have h := hinv'.out
                rw [← hsk'.out] at h
                exact h
              · simp only [Value.ownBlock, Option.some.injEq] at h
                rcases hloc6'.out with h2 | h2
                · rw [h2] at hg'
                  simp only [Value.ownBlock, Option.some.injEq] at hg'
                  omega
                · rw [h2] at hg'
                  simp only [Option.some.injEq] at hg'
                  omega
              · rcases hloc6'.out with h2 | h2
                · rw [h2] at hg'
                  exact r8'.out g' hg'
                · rw [h2] at hg'
                  simp only [Option.some.injEq] at hg'
                  exact .inr (by omega)
              · rw [List.length_append, hm'.out]
                exact Nat.le_refl _
        · have hcn : (cv != (n : Int)) = true := by
            rw [hcv, bne_iff_ne]
            intro he
            apply hc
            cases h : G.cOf P Q x with
            | none => rw [h] at he; simp only [G.toI] at he; omega
            | some k =>
              rw [h] at he
              simp only [G.toI] at he
              rw [show k = n from by omega]
          have hcv' := Lib.hid hcv; clear hcv
          have hc' := Lib.hid hc; clear hc
          go_wp2_with fail
          go_roundg (cntK S + cntK S + m)
          case measure => have := r9'.out; omega
          case rel => exact ⟨st2, ys, K2, S, by rw [hm'.out] at b1' ⊢; exact b1'.out, b2'.out, b3'.out, q3'.out, b5'.out, r6'.out.drop (.inr hc'.out), fun g' hg' => r7'.out g' hg', fun g' hg' => r8'.out g' hg', by rw [hm'.out]; exact Nat.le_refl _⟩

end Go.Proofs.Ytfihccfjboopiaa
