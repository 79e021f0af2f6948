/-
  THE WALKS of the reference's grammar.Match, Get, Static, Upward, holds.
-/
import Derived.Test.YtinjeijjfkkhbaaGreatDoorMatchHolds
import Derived.Test.YtinjeijjfkkhbaaGreatDoorRefMatch
namespace Go.Proofs.YtinjeijjfkkhbaaGreatDoor
open Go.RowKit

set_option maxHeartbeats 400000 in
theorem rgm_any (k : Int) (n : ByteArray) (o : Int) (v : ByteArray) (w : World) : Calls Tryz.prog 51 #[termV k n o v] w fun e w' => e = .returned (.bool (isMatch o)) ∧ Below w.heap.size w w' := by
  have hb : Below w.heap.size w (w.alloc (.cells #[.int .i64 k, .string n, .int .i64 o, .string v] 46)) := (Below.refl _ _).alloc (Nat.le_refl _) _
  have hb' := Lib.hid hb; clear hb
  unfold termV isMatch
  by_cases h1 : o = 1
  · subst h1
    go_enter Tryz.func51, Tryz.ntmps51
    go_wp2_with fail
    go_ret
    exact ⟨rfl, hb'.out⟩
  · by_cases h2 : o = 2
    · subst h2
      go_enter Tryz.func51, Tryz.ntmps51
      go_wp2_with fail
      go_ret
      exact ⟨rfl, hb'.out⟩
    · have b1 : (o == 1) = false := by rw [beq_eq_false_iff_ne]; exact h1
      have b2 : (o == 2) = false := by rw [beq_eq_false_iff_ne]; exact h2
      have d1 : decide (o = 1) = false := by simpa using h1
      have d2 : decide (o = 2) = false := by simpa using h2
      rw [d1, d2]
      clear d1 d2
      go_enter Tryz.func51, Tryz.ntmps51
      go_wp2_with fail
      go_ret
      exact ⟨rfl, hb'.out⟩

theorem beqi_no {a b : Int} (h : ¬ a = b) : (a == b) = false := beq_eq_false_iff_ne.2 h
theorem stS_keys (k o : Int) : stS k o = (isMatch o && (decide (k = 2) || decide (k = 3) || decide (k = 4) || decide (k = 5))) := by
  unfold stS
  cases isMatch o with
  | false => rfl
  | true =>
    by_cases h2 : k = 2
    · subst h2; rfl
    · by_cases h3 : k = 3
      · subst h3; rfl
      · by_cases h4 : k = 4
        · subst h4; rfl
        · by_cases h5 : k = 5
          · subst h5; rfl
          · rw [decide_eq_false h2, decide_eq_false h3, decide_eq_false h4, decide_eq_false h5]
            by_cases h0 : 0 ≤ k
            · have hf : stK k.toNat = false := by
                unfold stK
                split <;> first | omega | rfl
              rw [hf]; simp
            · simp [h0]
theorem upS_keys (k o : Int) : upS' k o = (isMatch o && (decide (k = 8) || decide (k = 9) || decide (k = 10) || decide (k = 11))) := by
  unfold upS'
  cases isMatch o with
  | false => rfl
  | true =>
    by_cases h2 : k = 8
    · subst h2; rfl
    · by_cases h3 : k = 9
      · subst h3; rfl
      · by_cases h4 : k = 10
        · subst h4; rfl
        · by_cases h5 : k = 11
          · subst h5; rfl
          · rw [decide_eq_false h2, decide_eq_false h3, decide_eq_false h4, decide_eq_false h5]
            by_cases h0 : 0 ≤ k
            · have hf : upK k.toNat = false := by
                unfold upK
                split <;> first | omega | rfl
              rw [hf]; simp
            · simp [h0]

set_option maxHeartbeats 1000000 in
theorem rstatic_any (k : Int) (n : ByteArray) (o : Int) (v : ByteArray) (w : World) : Calls Tryz.prog 52 #[termV k n o v] w fun e w' => e = .returned (.bool (stS k o)) ∧ Below w.heap.size w w' := by
  have hM := rgm_any k n o v (w.alloc (.cells #[.int .i64 k, .string n, .int .i64 o, .string v] 46))
  rw [stS_keys]
  generalize isMatch o = mb at *
  have hb : Hid (Below w.heap.size w (w.alloc (.cells #[.int .i64 k, .string n, .int .i64 o, .string v] 46))) := (Below.refl _ _).alloc (Nat.le_refl _) _
  have hX : Hid (Blk (w.alloc (.cells #[.int .i64 k, .string n, .int .i64 o, .string v] 46)) w.heap.size 46 #[.int .i64 k, .string n, .int .i64 o, .string v]) := Blk.new _ _ _
  have hM' := Lib.hid hM; clear hM
  unfold termV at *
  cases mb with
  | false =>
    go_enter Tryz.func52, Tryz.ntmps52
    go_wp2_with fail
    refine hM'.out.mono ?_
    rintro e v1 ⟨rfl, hb1⟩
    have hb2 := Lib.hid (hb.out.trans (hb1.mono hb.out.size)); clear hb1
    go_wp2_with fail
    go_ret
    exact ⟨rfl, hb2.out⟩
  | true =>
    have hk : (k = 2 ∨ k = 3 ∨ k = 4 ∨ k = 5) ∨ ¬ k = 2 ∧ ¬ k = 3 ∧ ¬ k = 4 ∧ ¬ k = 5 := by omega
    rcases hk with (rfl | rfl | rfl | rfl) | ⟨h2, h3, h4, h5⟩
    iterate 4
      focus
        go_enter Tryz.func52, Tryz.ntmps52
        go_wp2_with fail
        refine hM'.out.mono ?_
        rintro e v1 ⟨rfl, hb1⟩
        have hb2 := Lib.hid (hb.out.trans (hb1.mono hb.out.size))
        have hX1 := Lib.hid (hX.out.below hb1 hX.out.lt)
        have c0 := hX1.out.cell 0
        simp only [List.getElem?_toArray, List.getElem?_cons_zero] at c0
        clear hb1
        go_wp2_with fail
        go_ret
        exact ⟨rfl, hb2.out⟩
    have d2 := beqi_no h2
    have d3 := beqi_no h3
    have d4 := beqi_no h4
    have d5 := beqi_no h5
    rw [decide_eq_false h2, decide_eq_false h3, decide_eq_false h4, decide_eq_false h5]
    clear h2 h3 h4 h5
    go_enter Tryz.func52, Tryz.ntmps52
    go_wp2_with fail
    refine hM'.out.mono ?_
    rintro e v1 ⟨rfl, hb1⟩
    have hb2 := Lib.hid (hb.out.trans (hb1.mono hb.out.size))
    have hX1 := Lib.hid (hX.out.below hb1 hX.out.lt)
    have c0 := hX1.out.cell 0
    simp only [List.getElem?_toArray, List.getElem?_cons_zero] at c0
    clear hb1
    go_wp2_with fail
    go_ret
    exact ⟨rfl, hb2.out⟩

set_option maxHeartbeats 1000000 in
theorem rupward_any (k : Int) (n : ByteArray) (o : Int) (v : ByteArray) (w : World) : Calls Tryz.prog 24 #[termV k n o v] w fun e w' => e = .returned (.bool (upS' k o)) ∧ Below w.heap.size w w' := by
  have hM := rgm_any k n o v (w.alloc (.cells #[.int .i64 k, .string n, .int .i64 o, .string v] 46))
  rw [upS_keys]
  generalize isMatch o = mb at *
  have hb : Hid (Below w.heap.size w (w.alloc (.cells #[.int .i64 k, .string n, .int .i64 o, .string v] 46))) := (Below.refl _ _).alloc (Nat.le_refl _) _
  have hX : Hid (Blk (w.alloc (.cells #[.int .i64 k, .string n, .int .i64 o, .string v] 46)) w.heap.size 46 #[.int .i64 k, .string n, .int .i64 o, .string v]) := Blk.new _ _ _
  have hM' := Lib.hid hM; clear hM
  unfold termV at *
  cases mb with
  | false =>
    go_enter Tryz.func24, Tryz.ntmps24
    go_wp2_with fail
    refine hM'.out.mono ?_
    rintro e v1 ⟨rfl, hb1⟩
    have hb2 := Lib.hid (hb.out.trans (hb1.mono hb.out.size)); clear hb1
    go_wp2_with fail
    go_ret
    exact ⟨rfl, hb2.out⟩
  | true =>
    have hk : (k = 8 ∨ k = 9 ∨ k = 10 ∨ k = 11) ∨ ¬ k = 8 ∧ ¬ k = 9 ∧ ¬ k = 10 ∧ ¬ k = 11 := by omega
    rcases hk with (rfl | rfl | rfl | rfl) | ⟨h2, h3, h4, h5⟩
    iterate 4
      focus
        go_enter Tryz.func24, Tryz.ntmps24
        go_wp2_with fail
        refine hM'.out.mono ?_
        rintro e v1 ⟨rfl, hb1⟩
        have hb2 := Lib.hid (hb.out.trans (hb1.mono hb.out.size))
        have hX1 := Lib.hid (hX.out.below hb1 hX.out.lt)
        have c0 := hX1.out.cell 0
        simp only [List.getElem?_toArray, List.getElem?_cons_zero] at c0
        clear hb1
        go_wp2_with fail
        go_ret
        exact ⟨rfl, hb2.out⟩
    have d2 := beqi_no h2
    have d3 := beqi_no h3
    have d4 := beqi_no h4
    have d5 := beqi_no h5
    rw [decide_eq_false h2, decide_eq_false h3, decide_eq_false h4, decide_eq_false h5]
    clear h2 h3 h4 h5
    go_enter Tryz.func24, Tryz.ntmps24
    go_wp2_with fail
    refine hM'.out.mono ?_
    rintro e v1 ⟨rfl, hb1⟩
    have hb2 := Lib.hid (hb.out.trans (hb1.mono hb.out.size))
    have hX1 := Lib.hid (hX.out.below hb1 hX.out.lt)
    have c0 := hX1.out.cell 0
    simp only [List.getElem?_toArray, List.getElem?_cons_zero] at c0
    clear hb1
    go_wp2_with fail
    go_ret
    exact ⟨rfl, hb2.out⟩

set_option maxHeartbeats 1000000 in
theorem rget_any (l : List Att) (v : Value) (n : ByteArray) (w : World) (hl : RowAt w v 2 (l.map attC)) :
    Calls Tryz.prog 54 #[v, .string n] w fun e w' => e = .returned (.tuple #[.string (getS l n).1, .bool (getS l n).2]) ∧ Below w.heap.size w w' := by
  obtain ⟨hlen, hl2⟩ := hl
  obtain ⟨R, hR⟩ : ∃ R, getS l n = R := ⟨_, rfl⟩
  rw [hR]
  have hR' := Lib.hid hR; clear hR
  rcases hl2 with ⟨rfl, h0⟩ | ⟨g, o, cap, rfl, hg, hc⟩
  · have hl0 : l = [] := List.map_eq_nil_iff.1 h0
    subst hl0
    have hF : R = (⟨#[]⟩, false) := by rw [← hR'.out]; rfl
    subst hF
    clear hR' hlen h0
    go_enter Tryz.func54, Tryz.ntmps54
    go_wp2_with fail
    go_loopw [6] (fun s4 wr => s4 = .int .i64 0 ∧ wr = w) (fun _ _ => 0)
    case atStart => exact ⟨rfl, rfl⟩
    case round =>
      obtain ⟨rfl, rfl⟩ := hrel
      go_wp2_with fail
      go_ret2
      exact ⟨rfl, Below.refl _ _⟩
  · rw [List.length_map] at hlen ⊢
    obtain ⟨m, hm⟩ : ∃ m, l.length = m := ⟨_, rfl⟩
    rw [hm] at hlen ⊢
    have hm' := Lib.hid hm; clear hm
    have hc' : Hid (∀ (k : Nat) (x : Att), l[k]? = some x → w.cell? ⟨g, o + k * 2, none⟩ = some (.string x.1) ∧ w.cell? ⟨g, o + k * 2 + 1, none⟩ = some (.string x.2)) := fun k x hx => by
      have hx2 : (l.map attC)[k]? = some (attC x) := by rw [List.getElem?_map, hx]; rfl
      exact ⟨hc k _ hx2 0 _ rfl, hc k _ hx2 1 _ rfl⟩
    clear hc
    go_enter Tryz.func54, Tryz.ntmps54
    go_wp2_with fail
    go_loopw [6] (fun s4 wr => ∃ k : Nat, s4 = .int .i64 k ∧ k ≤ m ∧ Hid (∀ x ∈ l.take k, x.1 ≠ n) ∧ Hid (Below w.heap.size w wr)) (fun s4 _ => m - (intOf s4).toNat)
    case atStart => exact ⟨0, rfl, by omega, (show ∀ x ∈ l.take 0, x.1 ≠ n from fun x hx => by simp at hx), Below.refl _ _⟩
    case round =>
      obtain ⟨k, rfl, hk, hno, hb⟩ := hrel
      by_cases hkm : k < m
      · obtain ⟨x, hx⟩ : ∃ x, l[k]? = some x := ⟨_, List.getElem?_eq_getElem (by have := hm'.out; omega)⟩
        obtain ⟨c0, c1⟩ := hc'.out k x hx
        have e : ∀ i, wr.cell? ⟨g, i, none⟩ = w.cell? ⟨g, i, none⟩ := fun i => World.cell?_of_block (hb.out.block g hg)
        rw [← e] at c0 c1
        have ik : (k : Int) < (m : Int) := by omega
        have ik0 : (0 : Int) ≤ (k : Int) := by omega
        have hx' := Lib.hid hx; clear hx e
        obtain ⟨xk, xv⟩ := x
        simp only at c0 c1
        by_cases hxn : xk = n
        · have hF : R = (xv, true) := by rw [← hR'.out]; exact getS_some hx'.out hno.out hxn
          subst hF
          subst hxn
          clear hno hR'
          go_wp2_with fail
          go_ret2
          exact ⟨rfl, hb.out⟩
        · have e1 := ne_bytes hxn
          have hno2 : Hid (∀ x ∈ l.take (k + 1), x.1 ≠ n) := fun y hy => by
            rw [List.take_add_one, hx'.out] at hy
            rcases List.mem_append.1 hy with hy | hy
            · exact hno.out y hy
            · simp at hy; subst hy; exact hxn
          clear hno
          go_wp2_with fail
          go_roundw
          case rel => exact ⟨k + 1, by go_num, by omega, hno2, hb⟩
          case measure => simp [intOf]; omega
      · obtain rfl : k = m := by omega
        have hF : R = (⟨#[]⟩, false) := by
          rw [← hR'.out]
          refine getS_none fun x hx => hno.out x ?_
          rw [List.take_of_length_le (by have := hm'.out; omega)]
          exact hx
        subst hF
        clear hno hR'
        go_wp2_with fail
        go_ret2
        exact ⟨rfl, hb.out⟩

set_option maxHeartbeats 1000000 in
theorem rholds_any (k : Int) (n : ByteArray) (o : Int) (v s : ByteArray) (w : World) (hv : v.size ≤ 9223372036854775807) (hs : s.size ≤ 9223372036854775807) :
    Calls Tryz.prog 53 #[termV k n o v, .string s] w fun e w' => e = .returned (.bool (holdsS o v s)) ∧ Below w.heap.size w w' := by
  have hM := fun W => rmatch_any v s W hv hs
  unfold holdsS
  generalize G.matchS (bs v) (bs s) = mt at *
  have hM' := Lib.hid hM; clear hM hv hs
  unfold termV
  have hX : Hid (Blk (w.alloc (.cells #[.int .i64 k, .string n, .int .i64 o, .string v] 46)) w.heap.size 46 #[.int .i64 k, .string n, .int .i64 o, .string v]) := Blk.new _ _ _
  have hb : Hid (Below w.heap.size w (w.alloc (.cells #[.int .i64 k, .string n, .int .i64 o, .string v] 46))) := (Below.refl _ _).alloc (Nat.le_refl _) _
  obtain ⟨q, hq⟩ : ∃ q, decide (o = 1) = q := ⟨_, rfl⟩
  have hq2 : (o == 1) = q := by rw [← hq]; by_cases h : o = 1 <;> simp [h]
  rw [hq]
  go_enter Tryz.func53, Tryz.ntmps53
  go_upto_region 1 with fail
  generalize w.alloc (.cells #[.int .i64 k, .string n, .int .i64 o, .string v] 46) = w1 at *
  have c2 := hX.out.cell 2
  have c3 := hX.out.cell 3
  simp only [List.getElem?_toArray, List.getElem?_cons_zero, List.getElem?_cons_succ] at c2 c3
  have hS0 : Below w.heap.size w w1 ∧ w1.cell? ⟨w.heap.size, 2, none⟩ = some (.int .i64 o) ∧ w1.cell? ⟨w.heap.size, 3, none⟩ = some (.string v) := ⟨hb.out, c2, c3⟩
  have hS1 : Below w.heap.size w w1.drew ∧ w1.drew.cell? ⟨w.heap.size, 2, none⟩ = some (.int .i64 o) ∧ w1.drew.cell? ⟨w.heap.size, 3, none⟩ = some (.string v) := ⟨Below.drew hb.out, c2, c3⟩
  have hk : Hid (∀ y, Below w1.drew.heap.size w1.drew y → Below w.heap.size w y ∧ y.cell? ⟨w.heap.size, 2, none⟩ = some (.int .i64 o) ∧ y.cell? ⟨w.heap.size, 3, none⟩ = some (.string v)) := fun y h => by
    have e := hX.out.drew.below h hX.out.drew.lt
    exact ⟨(Below.drew hb.out).trans (h.mono (Below.drew hb.out).size), (e.cell 2).trans rfl, (e.cell 3).trans rfl⟩
  (first | (go_must (go_region_held3 (fun w' => Below w.heap.size w w' ∧ w'.cell? ⟨w.heap.size, 2, none⟩ = some (.int .i64 o) ∧ w'.cell? ⟨w.heap.size, 3, none⟩ = some (.string v))
    ((first | exact hS0 | exact hS1 | exact hk.out _ hy1))
    (first | (go_at_call 71; refine (hM'.out _).mono ?_; rintro e y1 ⟨rfl, hy1⟩) | fail))) | fail)
  have hy := Lib.hid (hk.out _ hy1).1
  clear hy1 hS0 hS1 c2 c3
  go_wp2_with fail
  go_ret
  exact ⟨rfl, hy.out⟩

end Go.Proofs.YtinjeijjfkkhbaaGreatDoor
