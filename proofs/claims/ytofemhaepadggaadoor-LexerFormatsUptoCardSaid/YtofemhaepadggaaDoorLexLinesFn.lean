/-
  THE WALK of lexer.Lines: the logical lines of a text.
-/
import Derived.Test.YtofemhaepadggaaDoorLexLines
namespace Go.Proofs.YtofemhaepadggaaDoor
open Go.RowKit

abbrev Ln := Nat × ByteArray
def flatN : List Ln → List Value
  | [] => []
  | x :: l => .int .i64 (x.1 : Int) :: .string x.2 :: flatN l
theorem flatN_app (l m : List Ln) : flatN (l ++ m) = flatN l ++ flatN m := by
  induction l with
  | nil => rfl
  | cons a l ih => simp [flatN, ih]
theorem length_flatN (l : List Ln) : (flatN l).length = l.length * 2 := by
  induction l with
  | nil => rfl
  | cons a l ih => simp [flatN, ih]; omega
theorem flatN_get : ∀ (l : List Ln) (k : Nat) (x : Ln), l[k]? = some x → (flatN l)[k * 2]? = some (.int .i64 (x.1 : Int)) ∧ (flatN l)[k * 2 + 1]? = some (.string x.2)
  | [], k, x, h => by cases h
  | a :: l, 0, x, h => by
    simp at h
    subst h
    exact ⟨rfl, rfl⟩
  | a :: l, k + 1, x, h => by
    have := flatN_get l k x (by simpa using h)
    rw [show (k + 1) * 2 = k * 2 + 1 + 1 from by omega]
    exact this
theorem one_flatN : ∀ (l : List Ln), ∀ v ∈ flatN l, v.oneCell' = true
  | [], v, h => by cases h
  | a :: l, v, h => by
    rcases List.mem_cons.1 h with h | h
    · subst h; rfl
    · rcases List.mem_cons.1 h with h | h
      · subst h; rfl
      · exact one_flatN l v h
/-- Lines in the call's own blocks from B on. -/
def Lns (w : World) (B : Nat) (v : Value) (l : List Ln) : Prop := w.ownsRow B 50 2 v l.length (flatN l)
def linesS (s : ByteArray) : List Ln := lnGo blankB ((phys s).length + 1) 0 (phys s)

theorem info_line : (Tryd.prog.info? 50).map (fun i => (i.zero, i.size, i.bytes)) = some (some (.agg #[.int .i64 0, .string ⟨#[]⟩]), 2, 24) := by kernel_rfl
theorem cell_two_new (w : World) (a b : Value) (t : TypeId) : ∀ (j : Nat) (u : Value), [a, b][j]? = some u → (w.alloc (.cells #[a, b] t)).cell? ((⟨w.heap.size, 0, none⟩ : Addr).add j) = some u := by
  intro j u h
  match j with
  | 0 => simp at h; subst h; simp [Addr.add]
  | 1 => simp at h; subst h; simp [Addr.add]
  | j + 2 => simp at h

/-- What has been gathered of a logical line at the place j. -/
def Gath (P : List ByteArray) (i j : Nat) (t : ByteArray) (more : Bool) : Prop :=
  (more = true → grp (P.drop i) = (t ++ (grp (P.drop j)).1, (j - i) + (grp (P.drop j)).2)) ∧ (more = false → grp (P.drop i) = (t, j - i))
theorem append_empty' (t : ByteArray) : t ++ ⟨#[]⟩ = t := by
  apply bs_inj
  simp [bs]
theorem empty_append' (t : ByteArray) : (⟨#[]⟩ : ByteArray) ++ t = t := by
  apply bs_inj
  simp [bs]
theorem append_assoc' (a b c : ByteArray) : a ++ b ++ c = a ++ (b ++ c) := by
  apply bs_inj
  simp [bs]
theorem Gath.start (P : List ByteArray) (i : Nat) : Gath P i i ⟨#[]⟩ true := by
  refine ⟨fun _ => ?_, fun h => by cases h⟩
  rw [empty_append', Nat.sub_self, Nat.zero_add]
theorem grp_yes {x : ByteArray} {r : List ByteArray} (h : lastB x = true) : grp (x :: r) = (cutB x ++ (grp r).1, (grp r).2 + 1) := by
  show (if lastB x then _ else _) = _
  rw [if_pos h]
theorem grp_no {x : ByteArray} {r : List ByteArray} (h : lastB x = false) : grp (x :: r) = (x, 1) := by
  show (if lastB x then _ else _) = _
  rw [if_neg (by rw [h]; simp)]
theorem Gath.step {P : List ByteArray} {i j : Nat} {t x : ByteArray} (h : Gath P i j t true) (hij : i ≤ j) (hx : P[j]? = some x) : Gath P i (j + 1) (t ++ cutB x) (lastB x) := by
  have h1 := h.1 rfl
  have hd : P.drop j = x :: P.drop (j + 1) := by
    have hj : j < P.length := (List.getElem?_eq_some_iff.1 hx).1
    have he : P[j] = x := (List.getElem?_eq_some_iff.1 hx).2
    rw [List.drop_eq_getElem_cons hj, he]
  rw [hd] at h1
  refine ⟨fun hl => ?_, fun hl => ?_⟩
  · rw [grp_yes hl] at h1
    rw [h1, append_assoc']
    congr 1
    simp only
    omega
  · rw [grp_no hl] at h1
    rw [h1]
    have hc : cutB x = x := by unfold cutB; rw [hl]; rfl
    rw [hc]
    congr 1
    simp only
    omega
theorem Gath.stop {P : List ByteArray} {i j : Nat} {t : ByteArray} {more : Bool} (h : Gath P i j t more) (hs : more = false ∨ P.length ≤ j) : grp (P.drop i) = (t, j - i) := by
  cases more with
  | false => exact h.2 rfl
  | true =>
    have hj : P.length ≤ j := by rcases hs with h | h; · cases h
                                 · exact h
    have := h.1 rfl
    rw [List.drop_eq_nil_of_le hj] at this
    rw [this]
    show (t ++ ⟨#[]⟩, j - i + 0) = _
    rw [append_empty', Nat.add_zero]
theorem ln_step {bl : ByteArray → Bool} {f n : Nat} {P : List ByteArray} {i j : Nat} {t : ByteArray} (hi : i < P.length) (hg : grp (P.drop i) = (t, j - i)) (hij : i ≤ j) :
    lnGo bl (f + 1) n (P.drop i) = (if bl t then [] else [(n + 1, t)]) ++ lnGo bl f (n + (j - i)) (P.drop j) := by
  have hd : P.drop i = P[i] :: P.drop (i + 1) := List.drop_eq_getElem_cons hi
  have hx : P.drop j = (P.drop i).drop (j - i) := by rw [List.drop_drop]; congr 1; omega
  rw [hx]
  have hs : ∀ (y : ByteArray) (r : List ByteArray), lnGo bl (f + 1) n (y :: r) = (if bl (grp (y :: r)).1 then [] else [(n + 1, (grp (y :: r)).1)]) ++ lnGo bl f (n + (grp (y :: r)).2) ((y :: r).drop (grp (y :: r)).2) := fun y r => rfl
  rw [hd] at hg ⊢
  rw [hs, hg]
theorem cutB_size (x : ByteArray) : (cutB x).size ≤ x.size := by
  unfold cutB
  split
  · rw [ByteArray.size_extract]; omega
  · omega

set_option maxRecDepth 100000 in
set_option maxHeartbeats 4000000 in
theorem lines_any (s : ByteArray) (m : Int) (w : World) (hs : s.size ≤ 4000) (hm : w.cell? ⟨0, 0, none⟩ = some (.int .i64 m)) :
    Calls Tryd.prog 20 #[.string s] w fun e w' => (∃ v, e = .returned v ∧ Lns w' (w.heap.size + 1) v (linesS s)) ∧ Below w.heap.size w w' := by
  obtain ⟨i0, hi0, hz0, hz1, hz2⟩ := info_parts info_line
  have h0lt : 0 < w.heap.size := World.block_lt_of_cell? w _ hm
  have hS := phys_any s m w hs hm
  have hpl : (phys s).length ≤ 4001 := by
    have := (pieces_len s).2
    unfold phys
    split
    · rw [List.length_dropLast]; omega
    · omega
  have hpc : ∀ (k : Nat) (x : ByteArray), (phys s)[k]? = some x → (pieces s)[k]? = some x := fun k x hx => by
    unfold phys at hx
    split at hx
    · have hk := (List.getElem?_eq_some_iff.1 hx).1
      rw [List.length_dropLast] at hk
      rw [List.getElem?_dropLast, if_pos hk] at hx
      exact hx
    · exact hx
  have hsz : ∀ (k : Nat) (x : ByteArray), (phys s)[k]? = some x → x.size ≤ 4000 := fun k x hx => Nat.le_trans (piece_le s x (List.mem_of_getElem? (hpc k x hx))) hs
  unfold linesS
  generalize phys s = P at *
  generalize pieces s = Q at *
  obtain ⟨n, hn⟩ : ∃ n, P.length = n := ⟨_, rfl⟩
  rw [hn] at hS hpl ⊢
  have hS' := Lib.hid hS; clear hS
  have hn' := Lib.hid hn; clear hn
  have hpc' := Lib.hid hpc; clear hpc
  have hsz' := Lib.hid hsz; clear hsz
  have hm' := Lib.hid hm; clear hm
  have hi0' := Lib.hid hi0; clear hi0
  have hz0' := Lib.hid hz0; clear hz0
  have hz1' := Lib.hid hz1; clear hz1
  have hz2' := Lib.hid hz2; clear hz2
  go_enter Tryd.func20, Tryd.ntmps20
  go_wp2_with fail
  refine hS'.out.mono ?_
  rintro e w' ⟨⟨cc, rfl⟩, rfl⟩
  have hB0 : Hid (Blk (w.alloc (.cells (Q.map Value.string).toArray 9)) w.heap.size 9 (Q.map Value.string).toArray) := Blk.new _ _ _
  have hb0 : Hid (Below w.heap.size w (w.alloc (.cells (Q.map Value.string).toArray 9))) := (Below.refl _ _).alloc (Nat.le_refl _) _
  have hsz1 : w.heap.size + 1 ≤ (w.alloc (.cells (Q.map Value.string).toArray 9)).heap.size := by simp
  generalize w.alloc (.cells (Q.map Value.string).toArray 9) = w1 at *
  go_wp2_with fail
  go_loopw [3, 5] (fun s3 s5 wr => ∃ (i f : Nat) (acc : List Ln), s5 = .int .i64 i ∧ i ≤ n ∧ n < i + f ∧ acc.length ≤ i ∧ Hid (acc ++ lnGo blankB f i (P.drop i) = lnGo blankB (n + 1) 0 P) ∧ Hid (Lns wr (w.heap.size + 1) s3 acc) ∧ Hid (Blk wr w.heap.size 9 (Q.map Value.string).toArray) ∧ Hid (Below w.heap.size w wr)) (fun _ s5 _ => n - (intOf s5).toNat)
  case atStart => exact ⟨0, n + 1, [], rfl, by omega, by omega, by simp, (by first | exact rfl | exact trivial | simp [Hid]), World.ownsRow_nil _ _ _ _, hB0, hb0⟩
  case round =>
    obtain ⟨i, f, acc, rfl, hi, hf, hla, hacc, hown, hB, hb⟩ := hrel
    obtain ⟨wo, hwo⟩ : ∃ y : World, y = wr := ⟨_, rfl⟩
    subst hwo
    clear hB0 hb0 hsz1 hS'
    by_cases hin : i < n
    · have ii : (i : Int) < (n : Int) := by omega
      obtain ⟨f', rfl⟩ : ∃ f', f = f' + 1 := ⟨f - 1, by omega⟩
      have hwr : w.heap.size + 1 ≤ wo.heap.size := hB.out.lt
      have hxB : Hid (Blk (wo.alloc (.cells #[.int .i64 ((i : Int) + 1), .string ⟨#[]⟩] 50)) wo.heap.size 50 #[.int .i64 ((i : Int) + 1), .string ⟨#[]⟩]) := Blk.new _ _ _
      have hoX : Hid (Only (fun j => j = wo.heap.size) (wo.alloc (.cells #[.int .i64 ((i : Int) + 1), .string ⟨#[]⟩] 50)) (wo.alloc (.cells #[.int .i64 ((i : Int) + 1), .string ⟨#[]⟩] 50))) := Only.refl _ _
      have hbX : Hid (Below wo.heap.size wo (wo.alloc (.cells #[.int .i64 ((i : Int) + 1), .string ⟨#[]⟩] 50))) := (Below.refl _ _).alloc (Nat.le_refl _) _
      go_wp2_with fail
      go_loopw [5, 7] (fun s5 s7 wx => ∃ (j : Nat) (t : ByteArray) (more : Bool), s5 = .int .i64 j ∧ s7 = .bool more ∧ i ≤ j ∧ j ≤ n ∧ t.size ≤ j * 4000 ∧ Hid (more = true ∨ i < j) ∧ Hid (Gath P i j t more) ∧ Hid (Blk wx wo.heap.size 50 #[.int .i64 ((i : Int) + 1), .string t]) ∧ Hid (Below wo.heap.size wo wx)) (fun s5 _ _ => n - (intOf s5).toNat)
      case atStart => exact ⟨i, ⟨#[]⟩, true, rfl, rfl, by omega, by omega, (by show 0 ≤ _; omega), .inl rfl, Gath.start P i, hxB, hbX⟩
      case round =>
        obtain ⟨j, t, more, rfl, rfl, hij, hj, hts, hmj, hG, hX, hbx⟩ := hrel
        clear hxB hoX hbX
        have c0 := hX.out.cell 1
        have f0 := hX.out.frozen 1
        have cn := hX.out.cell 0
        simp only [List.getElem?_toArray, List.getElem?_cons_zero, List.getElem?_cons_succ] at c0 cn
        cases hmore : more with
        | true =>
          subst hmore
          by_cases hjn : j < n
          · have ij : (j : Int) < (n : Int) := by omega
            obtain ⟨x, hx⟩ : ∃ x, P[j]? = some x := ⟨_, List.getElem?_eq_getElem (by have := hn'.out; omega)⟩
            have hxs := hsz'.out j x hx
            have hB2 : Blk wr w.heap.size 9 (Q.map Value.string).toArray := hB.out.below hbx.out (by omega)
            have cx : wr.cell? ⟨w.heap.size, j, none⟩ = some (.string x) := (hB2.cell j).trans (by simp [hpc'.out j x hx])
            have hC' := Lib.hid (cuts_any x wr (by omega))
            have hG2 := Lib.hid (hG.out.step hij hx)
            have hcs := cutB_size x
            clear hx hG hB2
            have hbs : Hid (∀ u, Below wo.heap.size wo (wr.setCell ⟨wo.heap.size, 1, none⟩ u)) := fun u => hbx.out.setCell (Nat.le_refl _) u
            have hXs : Hid (∀ u, Blk (wr.setCell ⟨wo.heap.size, 1, none⟩ u) wo.heap.size 50 #[.int .i64 ((i : Int) + 1), u]) := fun u => hX.out.store 1 u
            clear hbx hX
            go_wp2_with fail
            refine hC'.out.mono ?_
            rintro e v2 ⟨rfl, rfl⟩
            go_wp2_with fail
            go_roundw
            case rel => exact ⟨j + 1, t ++ cutB x, lastB x, by go_num, rfl, by omega, by omega, by rw [ByteArray.size_append]; omega, .inr (by omega), hG2, hXs.out _, hbs.out _⟩
            case measure => simp [intOf]; omega
          · have ij : ¬ (j : Int) < (n : Int) := by omega
            have hij2 : i < j := by omega
            have hgr := hG.out.stop (.inr (by have := hn'.out; omega))
            have hst := ln_step (bl := blankB) (f := f') (n := i) (by have := hn'.out; omega) hgr (by omega)
            have hacc2 := hacc.out
            rw [hst, show i + (j - i) = j from by omega] at hacc2
            have hacc2' := Lib.hid hacc2; clear hacc2 hst hgr hacc hG
            have hBl' := Lib.hid (blank_any t wr (by omega))
            obtain ⟨b, hb0⟩ : ∃ b, blankB t = b := ⟨_, rfl⟩
            rw [hb0] at hBl' hacc2'
            have hown2 : Hid (Lns wr (w.heap.size + 1) u3 acc) := own_below hown.out hbx.out
            have hB2 : Hid (Blk wr w.heap.size 9 (Q.map Value.string).toArray) := hB.out.below hbx.out (by omega)
            have hb2 := Lib.hid (hb.out.trans (hbx.out.mono hb.out.size))
            have hwx : Hid (wo.heap.size < wr.heap.size) := hX.out.lt
            have hX' := hX
            clear hown hB hb hbx hX hb0
            cases b with
            | true =>
              go_wp2_with fail
              refine hBl'.out.mono ?_
              rintro e v2 ⟨rfl, hy⟩
              have hown3 : Hid (Lns v2 (w.heap.size + 1) u3 acc) := own_below hown2.out hy
              have hB3 := Lib.hid (hB2.out.below hy hB2.out.lt)
              have hb3 := Lib.hid (hb2.out.trans (hy.mono hb2.out.size))
              clear hy hown2 hB2 hb2 c0 f0 cn
              go_wp2_with fail
              go_roundw
              case rel => exact ⟨j, f', acc, rfl, by omega, by omega, by omega, (by have := hacc2'.out; simp at this ⊢; exact Lib.hid this), hown3, hB3, hb3⟩
              case measure => simp [intOf]; omega
            | false =>
              go_wp2_with fail
              refine hBl'.out.mono ?_
              rintro e v2 ⟨rfl, hy⟩
              have hown3 : Hid (Lns v2 (w.heap.size + 1) u3 acc) := own_below hown2.out hy
              have hB3 := Lib.hid (hB2.out.below hy hB2.out.lt)
              have hb3 := Lib.hid (hb2.out.trans (hy.mono hb2.out.size))
              have hX3 := hX'.out.below hy hX'.out.lt
              have d0 := hX3.cell 0
              have d1 := hX3.cell 1
              simp only [List.getElem?_toArray, List.getElem?_cons_zero, List.getElem?_cons_succ] at d0 d1
              have hs3 : w.heap.size + 1 ≤ v2.heap.size := hB3.out.lt
              clear hy hown2 hB2 hb2 c0 f0 cn hX3 hX'
              go_wp2_with (at_builtin; refine wpList_append_own _ rfl (.tmp 44) (.tmp 46) 44 rfl (w.heap.size + 1) 50 i0 (.agg #[.int .i64 0, .string ⟨#[]⟩]) 2 24 Tryd.underlying44 hi0'.out hz0'.out hz1'.out hz2'.out rfl (by decide) u3 acc.length (flatN acc) rfl (own_below hown3.out (Below.alloc (Below.refl _ _) (Nat.le_refl _) _)) ⟨v2.heap.size, 0, none⟩ 1 1 [.int .i64 ((i : Int) + 1), .string t] rfl rfl (cell_two_new _ _ _ _) (by intro u hu; simp at hu; rcases hu with rfl | rfl <;> rfl) (by simp only [maxLen]; omega) (by omega) (by simp; omega) ?_; intro v' w1' hown' hgrow _)
              go_roundw
              case rel =>
                refine ⟨j, f', acc ++ [(i + 1, t)], rfl, by omega, by omega, by simp; omega, (by have := hacc2'.out; simp at this ⊢; exact Lib.hid this), ?_, ?_, ?_⟩
                · show Lns w1' _ _ _
                  unfold Lns
                  rw [flatN_app, List.length_append]
                  exact hown'
                · have h1 := hB3.out.alloc (.cells #[.int .i64 ((i : Int) + 1), .string t] 50)
                  refine h1.same (hgrow.block _ (by simp; omega) fun e => ?_)
                  have := hown3.out.lt _ e.symm
                  omega
                · exact (hb3.out.alloc (Nat.le_trans (Nat.le_succ _) hs3) _).grown hgrow (by simp; omega) (fun k e => by have := hown3.out.lt _ e; omega)
              case measure => simp [intOf]; omega
        | false =>
          subst hmore
          have hij2 : i < j := hmj.out.resolve_left (by simp)
          have hgr := hG.out.stop (.inl rfl)
          have hst := ln_step (bl := blankB) (f := f') (n := i) (by have := hn'.out; omega) hgr (by omega)
          have hacc2 := hacc.out
          rw [hst, show i + (j - i) = j from by omega] at hacc2
          have hacc2' := Lib.hid hacc2; clear hacc2 hst hgr hacc hG
          have hBl' := Lib.hid (blank_any t wr (by omega))
          obtain ⟨b, hb0⟩ : ∃ b, blankB t = b := ⟨_, rfl⟩
          rw [hb0] at hBl' hacc2'
          have hown2 : Hid (Lns wr (w.heap.size + 1) u3 acc) := own_below hown.out hbx.out
          have hB2 : Hid (Blk wr w.heap.size 9 (Q.map Value.string).toArray) := hB.out.below hbx.out (by omega)
          have hb2 := Lib.hid (hb.out.trans (hbx.out.mono hb.out.size))
          have hwx : Hid (wo.heap.size < wr.heap.size) := hX.out.lt
          have hX' := hX
          clear hown hB hb hbx hX hb0
          cases b with
          | true =>
            go_wp2_with fail
            refine hBl'.out.mono ?_
            rintro e v2 ⟨rfl, hy⟩
            have hown3 : Hid (Lns v2 (w.heap.size + 1) u3 acc) := own_below hown2.out hy
            have hB3 := Lib.hid (hB2.out.below hy hB2.out.lt)
            have hb3 := Lib.hid (hb2.out.trans (hy.mono hb2.out.size))
            clear hy hown2 hB2 hb2 c0 f0 cn
            go_wp2_with fail
            go_roundw
            case rel => exact ⟨j, f', acc, rfl, by omega, by omega, by omega, (by have := hacc2'.out; simp at this ⊢; exact Lib.hid this), hown3, hB3, hb3⟩
            case measure => simp [intOf]; omega
          | false =>
            go_wp2_with fail
            refine hBl'.out.mono ?_
            rintro e v2 ⟨rfl, hy⟩
            have hown3 : Hid (Lns v2 (w.heap.size + 1) u3 acc) := own_below hown2.out hy
            have hB3 := Lib.hid (hB2.out.below hy hB2.out.lt)
            have hb3 := Lib.hid (hb2.out.trans (hy.mono hb2.out.size))
            have hX3 := hX'.out.below hy hX'.out.lt
            have d0 := hX3.cell 0
            have d1 := hX3.cell 1
            simp only [List.getElem?_toArray, List.getElem?_cons_zero, List.getElem?_cons_succ] at d0 d1
            have hs3 : w.heap.size + 1 ≤ v2.heap.size := hB3.out.lt
            clear hy hown2 hB2 hb2 c0 f0 cn hX3 hX'
            go_wp2_with (at_builtin; refine wpList_append_own _ rfl (.tmp 44) (.tmp 46) 44 rfl (w.heap.size + 1) 50 i0 (.agg #[.int .i64 0, .string ⟨#[]⟩]) 2 24 Tryd.underlying44 hi0'.out hz0'.out hz1'.out hz2'.out rfl (by decide) u3 acc.length (flatN acc) rfl (own_below hown3.out (Below.alloc (Below.refl _ _) (Nat.le_refl _) _)) ⟨v2.heap.size, 0, none⟩ 1 1 [.int .i64 ((i : Int) + 1), .string t] rfl rfl (cell_two_new _ _ _ _) (by intro u hu; simp at hu; rcases hu with rfl | rfl <;> rfl) (by simp only [maxLen]; omega) (by omega) (by simp; omega) ?_; intro v' w1' hown' hgrow _)
            go_roundw
            case rel =>
              refine ⟨j, f', acc ++ [(i + 1, t)], rfl, by omega, by omega, by simp; omega, (by have := hacc2'.out; simp at this ⊢; exact Lib.hid this), ?_, ?_, ?_⟩
              · show Lns w1' _ _ _
                unfold Lns
                rw [flatN_app, List.length_append]
                exact hown'
              · have h1 := hB3.out.alloc (.cells #[.int .i64 ((i : Int) + 1), .string t] 50)
                refine h1.same (hgrow.block _ (by simp; omega) fun e => ?_)
                have := hown3.out.lt _ e.symm
                omega
              · exact (hb3.out.alloc (Nat.le_trans (Nat.le_succ _) hs3) _).grown hgrow (by simp; omega) (fun k e => by have := hown3.out.lt _ e; omega)
            case measure => simp [intOf]; omega
    · obtain rfl : i = n := by omega
      have hfin : Lns wo (w.heap.size + 1) u3 (lnGo blankB (i + 1) 0 P) := by
        have h1 := hacc.out
        have hd : P.drop i = [] := List.drop_eq_nil_of_le (by have := hn'.out; omega)
        have h2 : lnGo blankB f i (P.drop i) = [] := by
          rw [hd]
          cases f <;> rfl
        rw [h2, List.append_nil] at h1
        rw [← h1]
        exact hown.out
      have hfin' := Lib.hid hfin
      clear hfin hacc hown
      go_wp2_with fail
      go_ret
      exact ⟨⟨_, rfl, hfin'.out⟩, hb.out⟩

end Go.Proofs.YtofemhaepadggaaDoor
