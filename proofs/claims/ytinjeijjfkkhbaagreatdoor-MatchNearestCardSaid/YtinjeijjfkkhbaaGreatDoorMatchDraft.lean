/-
  THE WALK of match.Draft.
-/
import Derived.Test.YtinjeijjfkkhbaaGreatDoorMatchClo
namespace Go.Proofs.YtinjeijjfkkhbaaGreatDoor
open Go.RowKit

/-- A draft; pl: its properties, tl: its tags. -/
structure Dft where
  pv : Value
  tv : Value
  v2 : Value
  v3 : Value
  v4 : Value
  nm : ByteArray
  pr : Int
  ow : ByteArray
  gr : ByteArray
  md : Int
  rs : ByteArray
  ca : Int
  ti : Int
  v13 : Value
  pl : List Att
  tl : List ByteArray
def dftC (x : Dft) : Array Value := #[x.pv, x.tv, x.v2, x.v3, x.v4, .string x.nm, .int .i64 x.pr, .string x.ow, .string x.gr, .int .i64 x.md, .string x.rs, .int .i64 x.ca, .int .i64 x.ti, x.v13]
def DftAt (w : World) (x : Dft) : Prop := RowAt w x.pv 2 (x.pl.map attC) ∧ RowAt w x.tv 1 (x.tl.map fun s => [.string s])
theorem DftAt.below {w w' : World} {x : Dft} (h : DftAt w x) (hb : Below w.heap.size w w') : DftAt w' x := ⟨h.1.below hb, h.2.below hb⟩
/-- None of the values that terms look at is longer than 10^12 bytes. -/
def DftFit (x : Dft) : Prop := x.rs.size ≤ 9223372036854775807 ∧ (∀ a ∈ x.pl, a.2.size ≤ 9223372036854775807) ∧ ∀ s ∈ x.tl, s.size ≤ 9223372036854775807
/-- Whether a term holds for an action and a draft. -/
def draftS (k : Int) (n : ByteArray) (o : Int) (v act : ByteArray) (x : Dft) : Bool :=
  isMatch o && (if k = 1 then holdsS o v act else if k = 6 then holdsS o v (getS x.pl n).1 else if k = 13 then holdsS o v x.rs else if k = 7 then (x.tl.any fun s => G.matchS (bs v) (bs s)) == decide (o = 1) else false)

theorem beqi_false {a b : Int} (h : ¬ a = b) : (a == b) = false := beq_eq_false_iff_ne.2 h

set_option maxRecDepth 100000 in
set_option maxHeartbeats 2000000 in
theorem draft_any (k : Int) (n : ByteArray) (o : Int) (v act : ByteArray) (x : Dft) (w : World) (hx : DftAt w x) (hf : DftFit x) (hv : v.size ≤ 9223372036854775807) (ha : act.size ≤ 9223372036854775807) :
    Calls Tryz.prog 15 #[termV k n o v, .string act, .agg (dftC x)] w fun e w' => e = .returned (.bool (draftS k n o v act x)) ∧ Below w.heap.size w w' := by
  have hbb : Below w.heap.size w ((w.alloc (.cells #[.int .i64 k, .string n, .int .i64 o, .string v] 46)).alloc (.cells (dftC x) 54)) := ((Below.refl _ _).alloc (Nat.le_refl _) _).alloc (by simp) _
  have hM := gmatch_any k n o v ((w.alloc (.cells #[.int .i64 k, .string n, .int .i64 o, .string v] 46)).alloc (.cells (dftC x) 54))
  have hT : Hid (Blk ((w.alloc (.cells #[.int .i64 k, .string n, .int .i64 o, .string v] 46)).alloc (.cells (dftC x) 54)) w.heap.size 46 #[.int .i64 k, .string n, .int .i64 o, .string v]) := (Blk.new _ _ _).alloc _
  have hD : Hid (Blk ((w.alloc (.cells #[.int .i64 k, .string n, .int .i64 o, .string v] 46)).alloc (.cells (dftC x) 54)) (w.heap.size + 1) 54 (dftC x)) := Blk.new_ _ _ _ (by simp)
  have hH := fun (s : ByteArray) W (hs : s.size ≤ 9223372036854775807) => holds_any k n o v s W hv hs
  have hG := fun W (h : Below w.heap.size w W) => get_any x.pl x.pv n W (hx.1.below h)
  have hS := fun (cb : Nat) W (h : Below w.heap.size w W) (hcb : Blk W cb 46 #[.int .i64 k, .string n, .int .i64 o, .string v]) => containsS_any x.tl x.tv (fun s => G.matchS (bs v) (bs s)) cb W (hx.2.below h) fun s hs W2 h2 => tag_any s v cb k o n W2 (hf.2.2 s hs) hv (hcb.below h2 hcb.lt)
  have hrs := Lib.hid hf.1
  have hgs := Lib.hid (getS_size (n := n) hf.2.1)
  obtain ⟨gv, hgv⟩ : ∃ gv, getS x.pl n = gv := ⟨_, rfl⟩
  obtain ⟨sv, hsv⟩ : ∃ sv, (x.tl.any fun s => G.matchS (bs v) (bs s)) = sv := ⟨_, rfl⟩
  unfold draftS
  simp only [hsv, hgv] at hG hS ⊢
  rw [hgv] at hgs
  obtain ⟨gs, gb⟩ := gv
  simp only at hG hgs ⊢
  have hh : Hid (∀ s : ByteArray, holdsS o v s = holdsS o v s) := fun _ => rfl
  generalize holdsS o v = hold at *
  have hq : (o == 1) = decide (o = 1) := by by_cases h : o = 1 <;> simp [h]
  have hH' := Lib.hid hH; clear hH
  have hG' := Lib.hid hG; clear hG
  have hS' := Lib.hid hS; clear hS hx hf hv hgv hsv hh
  have ha' := Lib.hid ha; clear ha
  have hb := Lib.hid hbb; clear hbb
  generalize isMatch o = mb at *
  unfold termV at *
  have hM' := Lib.hid hM; clear hM
  obtain ⟨pv, tv, v2, v3, v4, nm, pr, ow, gr, md, rs, ca, ti, v13, pl, tl⟩ := x
  unfold dftC at *
  simp only at *
  obtain ⟨R, hR⟩ : ∃ R, (mb && (if k = 1 then hold act else if k = 6 then hold gs else if k = 13 then hold rs else if k = 7 then sv == decide (o = 1) else false)) = R := ⟨_, rfl⟩
  rw [hR]
  have hR' := Lib.hid hR; clear hR
  cases mb with
  | false =>
    obtain rfl : R = false := by rw [← hR'.out]; rfl
    clear hR'
    go_enter Tryz.func15, Tryz.ntmps15
    go_wp2_with fail
    refine hM'.out.mono ?_
    rintro e v1 ⟨rfl, hb1⟩
    have hb2 := Lib.hid (hb.out.trans (hb1.mono hb.out.size)); clear hb1
    go_wp2_with fail
    go_ret
    exact ⟨rfl, hb2.out⟩
  | true =>
    have hR2 : Hid ((if k = 1 then hold act else if k = 6 then hold gs else if k = 13 then hold rs else if k = 7 then sv == (o == 1) else false) = R) := by rw [hq]; have := hR'.out; rwa [Bool.true_and] at this
    clear hR' hq
    obtain ⟨q, hq2⟩ : ∃ q, (o == 1) = q := ⟨_, rfl⟩
    rw [hq2] at hR2
    go_enter Tryz.func15, Tryz.ntmps15
    go_wp2_with fail
    refine hM'.out.mono ?_
    rintro e v1 ⟨rfl, hb1⟩
    have hb2 := Lib.hid (hb.out.trans (hb1.mono hb.out.size))
    have hX1 := Lib.hid (hT.out.below hb1 hT.out.lt)
    have hD1 := Lib.hid (hD.out.below hb1 hD.out.lt)
    have c0 := hX1.out.cell 0
    have c1 := hX1.out.cell 1
    have c2 := hX1.out.cell 2
    have c3 := hX1.out.cell 3
    have d0 := hD1.out.cell 0
    have d1 := hD1.out.cell 1
    have d10 := hD1.out.cell 10
    simp only [List.getElem?_toArray, List.getElem?_cons_zero, List.getElem?_cons_succ] at c0 c1 c2 c3 d0 d1 d10
    clear hb1
    by_cases k1 : k = 1
    · subst k1
      obtain rfl : R = hold act := by rw [← hR2.out, if_pos rfl]
      clear hR2
      go_wp2_with fail
      refine (hH'.out _ _ ha'.out).mono ?_
      rintro e v2 ⟨rfl, hb3⟩
      have hb4 := Lib.hid (hb2.out.trans (hb3.mono hb2.out.size)); clear hb3
      go_wp2_with fail
      go_ret
      exact ⟨rfl, hb4.out⟩
    · have hR3 : Hid ((if k = 6 then hold gs else if k = 13 then hold rs else if k = 7 then sv == q else false) = R) := by have := hR2.out; rwa [if_neg k1] at this
      clear hR2
      have e1 := beqi_false k1
      by_cases k6 : k = 6
      · subst k6
        obtain rfl : R = hold gs := by rw [← hR3.out, if_pos rfl]
        clear hR3
        go_wp2_with fail
        refine (hG'.out _ hb2.out).mono ?_
        rintro e v2 ⟨rfl, hb3⟩
        have hX2 := hX1.out.below hb3 hX1.out.lt
        have p0 := hX2.cell 0
        have p1 := hX2.cell 1
        have p2 := hX2.cell 2
        have p3 := hX2.cell 3
        simp only [List.getElem?_toArray, List.getElem?_cons_zero, List.getElem?_cons_succ] at p0 p1 p2 p3
        have hb4 := Lib.hid (hb2.out.trans (hb3.mono hb2.out.size)); clear hb3 hX2
        go_wp2_with fail
        refine (hH'.out _ _ hgs.out).mono ?_
        rintro e v3 ⟨rfl, hb5⟩
        have hb6 := Lib.hid (hb4.out.trans (hb5.mono hb4.out.size)); clear hb5
        go_wp2_with fail
        go_ret
        exact ⟨rfl, hb6.out⟩
      · have hR4 : Hid ((if k = 13 then hold rs else if k = 7 then sv == q else false) = R) := by have := hR3.out; rwa [if_neg k6] at this
        clear hR3
        have e6 := beqi_false k6
        by_cases k13 : k = 13
        · subst k13
          obtain rfl : R = hold rs := by rw [← hR4.out, if_pos rfl]
          clear hR4
          go_wp2_with fail
          refine (hH'.out _ _ hrs.out).mono ?_
          rintro e v2 ⟨rfl, hb3⟩
          have hb4 := Lib.hid (hb2.out.trans (hb3.mono hb2.out.size)); clear hb3
          go_wp2_with fail
          go_ret
          exact ⟨rfl, hb4.out⟩
        · have hR5 : Hid ((if k = 7 then sv == q else false) = R) := by have := hR4.out; rwa [if_neg k13] at this
          clear hR4
          have e13 := beqi_false k13
          by_cases k7 : k = 7
          · subst k7
            obtain rfl : R = (sv == q) := by rw [← hR5.out, if_pos rfl]
            clear hR5
            go_wp2_with fail
            refine (hS'.out _ _ hb2.out hX1.out).mono ?_
            rintro e v2 ⟨rfl, hb3⟩
            have hX2 := hX1.out.below hb3 hX1.out.lt
            have p2 := hX2.cell 2
            simp only [List.getElem?_toArray, List.getElem?_cons_zero, List.getElem?_cons_succ] at p2
            have hb4 := Lib.hid (hb2.out.trans (hb3.mono hb2.out.size)); clear hb3 hX2
            go_wp2_with fail
            go_ret
            exact ⟨by first | rfl | (rw [← hq]; rfl) | simp, hb4.out⟩
          · obtain rfl : R = false := by rw [← hR5.out, if_neg k7]
            clear hR5
            have e7 := beqi_false k7
            go_wp2_with fail
            go_ret
            exact ⟨rfl, hb2.out⟩

end Go.Proofs.YtinjeijjfkkhbaaGreatDoor
