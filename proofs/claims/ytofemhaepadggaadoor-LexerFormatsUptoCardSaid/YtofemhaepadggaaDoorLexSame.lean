/-
  THE WALKS of coldplugref08.SameLines, coldplugref08.Same.
-/
import Derived.Test.YtofemhaepadggaaDoorLexLinesFn
import Derived.Test.YtofemhaepadggaaDoorLexTokens
namespace Go.Proofs.YtofemhaepadggaaDoor
open Go.RowKit

theorem Lns.shape {w : World} {B : Nat} {v : Value} {l : List Ln} (h : Lns w B v l) : ∃ p c, v = .slice p l.length c ∧
    (0 < l.length → ∃ g, p = some ⟨g, 0, none⟩ ∧ g < w.heap.size ∧ ∀ (k : Nat) (x : Ln), l[k]? = some x → w.cell? ⟨g, k * 2, none⟩ = some (.int .i64 (x.1 : Int)) ∧ w.cell? ⟨g, k * 2 + 1, none⟩ = some (.string x.2)) := by
  have h' := h
  rcases h.2 with ⟨rfl, h0⟩ | ⟨g, cap, cur, rfl, hb, hg, rest⟩
  · exact ⟨none, 0, by rw [h0], fun hp => by omega⟩
  · refine ⟨some ⟨g, 0, none⟩, cap, rfl, fun _ => ⟨g, rfl, (Array.getElem?_eq_some_iff.1 hg).1, fun k x hx => ?_⟩⟩
    have hk : k < l.length := (List.getElem?_eq_some_iff.1 hx).1
    have hf := flatN_get l k x hx
    exact ⟨(World.ownsRow.cellAt h' (k * 2) (by omega)).trans hf.1, (World.ownsRow.cellAt h' (k * 2 + 1) (by omega)).trans hf.2⟩
theorem Toks.shape {w : World} {B : Nat} {v : Value} {l : List TB} (h : Toks w B v l) : ∃ p c, v = .slice p l.length c ∧
    (0 < l.length → ∃ g, p = some ⟨g, 0, none⟩ ∧ g < w.heap.size ∧ ∀ (k : Nat) (x : TB), l[k]? = some x → w.cell? ⟨g, k * 4, none⟩ = some (.string x.k) ∧ w.cell? ⟨g, k * 4 + 1, none⟩ = some (.string x.n) ∧ w.cell? ⟨g, k * 4 + 2, none⟩ = some (.string x.o) ∧ w.cell? ⟨g, k * 4 + 3, none⟩ = some (.string x.v)) := by
  have h' := h
  rcases h.2 with ⟨rfl, h0⟩ | ⟨g, cap, cur, rfl, hb, hg, rest⟩
  · exact ⟨none, 0, by rw [h0], fun hp => by omega⟩
  · refine ⟨some ⟨g, 0, none⟩, cap, rfl, fun _ => ⟨g, rfl, (Array.getElem?_eq_some_iff.1 hg).1, fun k x hx => ?_⟩⟩
    have hk : k < l.length := (List.getElem?_eq_some_iff.1 hx).1
    obtain ⟨h0, h1, h2, h3⟩ := flatT_get l k x hx
    exact ⟨(World.ownsRow.cellAt h' (k * 4) (by omega)).trans h0, (World.ownsRow.cellAt h' (k * 4 + 1) (by omega)).trans h1, (World.ownsRow.cellAt h' (k * 4 + 2) (by omega)).trans h2, (World.ownsRow.cellAt h' (k * 4 + 3) (by omega)).trans h3⟩

theorem ne_list {a b : ByteArray} (h : a ≠ b) : (a.toList == b.toList) = false := by
  rw [beq_eq_false_iff_ne, ByteArray.toList_eq, ByteArray.toList_eq]
  intro e
  apply h
  have := Array.toList_inj.1 e
  cases a; cases b
  simp only at this
  rw [this]

instance : DecidableEq TB := fun x y =>
  if h : x.k = y.k ∧ x.n = y.n ∧ x.o = y.o ∧ x.v = y.v then isTrue (by cases x; cases y; simp_all) else isFalse fun e => h (by subst e; exact ⟨rfl, rfl, rfl, rfl⟩)

set_option maxHeartbeats 1000000 in
theorem sameL_any (la lb : List Ln) (va vb : Value) (Ba Bb : Nat) (w : World) (ha : Lns w Ba va la) (hb : Lns w Bb vb lb) (hl : la.length ≤ 1000000000) :
    Calls Tryd.prog 19 #[va, vb] w fun e w' => e = .returned (.bool (decide (la = lb))) ∧ Below w.heap.size w w' := by
  obtain ⟨pa, ca, rfl, hA⟩ := ha.shape
  obtain ⟨pb, cb, rfl, hB⟩ := hb.shape
  clear ha hb
  by_cases hlen : la.length = lb.length
  · by_cases h0 : la.length = 0
    · have e1 : la = [] := List.eq_nil_of_length_eq_zero h0
      have e2 : lb = [] := List.eq_nil_of_length_eq_zero (by omega)
      subst e1 e2
      clear hA hB
      go_enter Tryd.func19, Tryd.ntmps19
      go_wp2_with fail
      go_loopw [5] (fun s5 wr => s5 = .int .i64 0 ∧ Below w.heap.size w wr) (fun _ _ => 0)
      case atStart => exact ⟨rfl, Below.refl _ _⟩
      case round =>
        obtain ⟨rfl, hb⟩ := hrel
        have hb' := Lib.hid hb; clear hb
        go_wp2_with fail
        go_ret
        exact ⟨rfl, hb'.out⟩
    · obtain ⟨g, rfl, hg, hA1⟩ := hA (by omega)
      obtain ⟨g2, rfl, hg2, hB1⟩ := hB (by omega)
      clear hA hB
      have hA := hA1; clear hA1
      have hB := hB1; clear hB1
      rw [← hlen]
      generalize hn : la.length = n at *
      have hn' := Lib.hid hn; clear hn
      have hlen' := Lib.hid hlen; clear hlen
      have hA' := Lib.hid hA; clear hA
      have hB' := Lib.hid hB; clear hB
      go_enter Tryd.func19, Tryd.ntmps19
      go_wp2_with fail
      go_loopw [5] (fun s5 wr => ∃ k : Nat, s5 = .int .i64 k ∧ k ≤ n ∧ Below w.heap.size w wr ∧ Hid (la.take k = lb.take k)) (fun s5 _ => n - (intOf s5).toNat)
      case atStart => exact ⟨0, rfl, by omega, Below.refl _ _, by simp [Hid]⟩
      case round =>
        obtain ⟨k, rfl, hk, hb, ht⟩ := hrel
        by_cases hkn : k < n
        · obtain ⟨x, hx⟩ : ∃ x, la[k]? = some x := ⟨_, List.getElem?_eq_getElem (by have := hn'.out; omega)⟩
          obtain ⟨y, hy⟩ : ∃ y, lb[k]? = some y := ⟨_, List.getElem?_eq_getElem (by have := hlen'.out; omega)⟩
          obtain ⟨c0, c1⟩ := hA'.out k x hx
          obtain ⟨d0, d1⟩ := hB'.out k y hy
          have e1 : ∀ i, wr.cell? ⟨g, i, none⟩ = w.cell? ⟨g, i, none⟩ := fun i => World.cell?_of_block (hb.block g hg)
          have e2 : ∀ i, wr.cell? ⟨g2, i, none⟩ = w.cell? ⟨g2, i, none⟩ := fun i => World.cell?_of_block (hb.block g2 hg2)
          rw [← e1] at c0 c1
          rw [← e2] at d0 d1
          clear e1 e2
          have i0 : (k : Int) < (n : Int) := by omega
          have i1 : (0 : Int) ≤ (k : Int) := by omega
          have i2 : ((k : Int)).toNat = k := by omega
          obtain ⟨x1, x2⟩ := x
          obtain ⟨y1, y2⟩ := y
          simp only at c0 c1 d0 d1
          have hx' := Lib.hid hx; clear hx
          have hy' := Lib.hid hy; clear hy
          have hb' := Lib.hid hb; clear hb
          by_cases hxy : ((x1, x2) : Ln) = (y1, y2)
          · have hfin : la.take (k + 1) = lb.take (k + 1) := by
              rw [List.take_add_one, List.take_add_one, ht.out, hx'.out, hy'.out, hxy]
            have hfin' := Lib.hid hfin; clear hfin ht
            obtain ⟨rfl, rfl⟩ : x1 = y1 ∧ x2 = y2 := Prod.mk.inj hxy
            clear hxy
            go_wp2_with fail
            go_quiet (fail)
            go_wp2_with fail
            go_roundw
            case rel => exact ⟨k + 1, by go_num, by omega, below_drawN hb'.out _, hfin'⟩
            case measure => simp [intOf]; omega
          · have hfin : decide (la = lb) = false := decide_eq_false fun e => by
              have := hx'.out
              rw [e, hy'.out] at this
              exact hxy (Option.some.inj this).symm
            have hfin' := Lib.hid hfin; clear hfin ht
            by_cases h0 : x1 = y1
            · subst h0
              have hq1 : (x2.toList == y2.toList) = false := ne_list fun h => hxy (by rw [h])
              clear hxy
              go_wp2_with fail
              go_quiet (fail)
              go_wp2_with fail
              go_ret
              exact ⟨by rw [hfin'.out]; rfl, below_drawN hb'.out _⟩
            · have hq0 : ((x1 : Int) == (y1 : Int)) = false := beq_eq_false_iff_ne.2 (by omega)
              clear hxy h0
              go_wp2_with fail
              go_quiet (fail)
              go_wp2_with fail
              go_ret
              exact ⟨by rw [hfin'.out]; rfl, below_drawN hb'.out _⟩
        · obtain rfl : k = n := by omega
          have hfin : decide (la = lb) = true := decide_eq_true (by
            have := ht.out
            rwa [List.take_of_length_le (by have := hn'.out; omega), List.take_of_length_le (by have := hlen'.out; omega)] at this)
          have hb' := Lib.hid hb; clear hb
          have hfin' := Lib.hid hfin; clear hfin ht
          go_wp2_with fail
          go_ret
          exact ⟨by rw [hfin'.out]; rfl, hb'.out⟩
  · have hne : decide (la = lb) = false := decide_eq_false fun e => hlen (by rw [e])
    have i0 : ¬ (la.length : Int) = (lb.length : Int) := by omega
    have i1 : ((la.length : Int) == (lb.length : Int)) = false := beq_eq_false_iff_ne.2 i0
    have hne' := Lib.hid hne; clear hne hlen hA hB
    go_enter Tryd.func19, Tryd.ntmps19
    go_wp2_with fail
    go_ret
    exact ⟨by rw [hne'.out]; rfl, Below.refl _ _⟩

set_option maxHeartbeats 1000000 in
theorem sameT_any (la lb : List TB) (va vb : Value) (Ba Bb : Nat) (w : World) (ha : Toks w Ba va la) (hb : Toks w Bb vb lb) (hl : la.length ≤ 1000000000) :
    Calls Tryd.prog 14 #[va, vb] w fun e w' => e = .returned (.bool (decide (la = lb))) ∧ Below w.heap.size w w' := by
  obtain ⟨pa, ca, rfl, hA⟩ := ha.shape
  obtain ⟨pb, cb, rfl, hB⟩ := hb.shape
  clear ha hb
  by_cases hlen : la.length = lb.length
  · by_cases h0 : la.length = 0
    · have e1 : la = [] := List.eq_nil_of_length_eq_zero h0
      have e2 : lb = [] := List.eq_nil_of_length_eq_zero (by omega)
      subst e1 e2
      clear hA hB
      go_enter Tryd.func14, Tryd.ntmps14
      go_wp2_with fail
      go_loopw [5] (fun s5 wr => s5 = .int .i64 0 ∧ Below w.heap.size w wr) (fun _ _ => 0)
      case atStart => exact ⟨rfl, Below.refl _ _⟩
      case round =>
        obtain ⟨rfl, hb⟩ := hrel
        have hb' := Lib.hid hb; clear hb
        go_wp2_with fail
        go_ret
        exact ⟨rfl, hb'.out⟩
    · obtain ⟨g, rfl, hg, hA1⟩ := hA (by omega)
      obtain ⟨g2, rfl, hg2, hB1⟩ := hB (by omega)
      clear hA hB
      have hA := hA1; clear hA1
      have hB := hB1; clear hB1
      rw [← hlen]
      generalize hn : la.length = n at *
      have hn' := Lib.hid hn; clear hn
      have hlen' := Lib.hid hlen; clear hlen
      have hA' := Lib.hid hA; clear hA
      have hB' := Lib.hid hB; clear hB
      go_enter Tryd.func14, Tryd.ntmps14
      go_wp2_with fail
      go_loopw [5] (fun s5 wr => ∃ k : Nat, s5 = .int .i64 k ∧ k ≤ n ∧ Below w.heap.size w wr ∧ Hid (la.take k = lb.take k)) (fun s5 _ => n - (intOf s5).toNat)
      case atStart => exact ⟨0, rfl, by omega, Below.refl _ _, by simp [Hid]⟩
      case round =>
        obtain ⟨k, rfl, hk, hb, ht⟩ := hrel
        by_cases hkn : k < n
        · obtain ⟨x, hx⟩ : ∃ x, la[k]? = some x := ⟨_, List.getElem?_eq_getElem (by have := hn'.out; omega)⟩
          obtain ⟨y, hy⟩ : ∃ y, lb[k]? = some y := ⟨_, List.getElem?_eq_getElem (by have := hlen'.out; omega)⟩
          obtain ⟨c0, c1, c2, c3⟩ := hA'.out k x hx
          obtain ⟨d0, d1, d2, d3⟩ := hB'.out k y hy
          have e1 : ∀ i, wr.cell? ⟨g, i, none⟩ = w.cell? ⟨g, i, none⟩ := fun i => World.cell?_of_block (hb.block g hg)
          have e2 : ∀ i, wr.cell? ⟨g2, i, none⟩ = w.cell? ⟨g2, i, none⟩ := fun i => World.cell?_of_block (hb.block g2 hg2)
          rw [← e1] at c0 c1 c2 c3
          rw [← e2] at d0 d1 d2 d3
          clear e1 e2
          have i0 : (k : Int) < (n : Int) := by omega
          have i1 : (0 : Int) ≤ (k : Int) := by omega
          have i2 : ((k : Int)).toNat = k := by omega
          obtain ⟨x1, x2, x3, x4⟩ := x
          obtain ⟨y1, y2, y3, y4⟩ := y
          simp only at c0 c1 c2 c3 d0 d1 d2 d3
          have hx' := Lib.hid hx; clear hx
          have hy' := Lib.hid hy; clear hy
          have hb' := Lib.hid hb; clear hb
          by_cases hxy : (⟨x1, x2, x3, x4⟩ : TB) = ⟨y1, y2, y3, y4⟩
          · have hfin : la.take (k + 1) = lb.take (k + 1) := by
              rw [List.take_add_one, List.take_add_one, ht.out, hx'.out, hy'.out, hxy]
            have hfin' := Lib.hid hfin; clear hfin ht
            obtain ⟨rfl, rfl, rfl, rfl⟩ : x1 = y1 ∧ x2 = y2 ∧ x3 = y3 ∧ x4 = y4 := by simpa using hxy
            clear hxy
            go_wp2_with fail
            go_quiet (fail)
            go_wp2_with fail
            go_roundw
            case rel => exact ⟨k + 1, by go_num, by omega, below_drawN hb'.out _, hfin'⟩
            case measure => simp [intOf]; omega
          · have hfin : decide (la = lb) = false := decide_eq_false fun e => by
              have := hx'.out
              rw [e, hy'.out] at this
              exact hxy (Option.some.inj this).symm
            have hfin' := Lib.hid hfin; clear hfin ht
            by_cases h0 : x1 = y1
            · subst h0
              by_cases h1 : x2 = y2
              · subst h1
                by_cases h2 : x3 = y3
                · subst h2
                  have hq3 : (x4.toList == y4.toList) = false := ne_list fun h => hxy (by rw [h])
                  clear hxy
                  go_wp2_with fail
                  go_quiet (fail)
                  go_wp2_with fail
                  go_ret
                  exact ⟨by rw [hfin'.out]; rfl, below_drawN hb'.out _⟩
                · have hq2 : (x3.toList == y3.toList) = false := ne_list h2
                  clear hxy h2
                  go_wp2_with fail
                  go_quiet (fail)
                  go_wp2_with fail
                  go_ret
                  exact ⟨by rw [hfin'.out]; rfl, below_drawN hb'.out _⟩
              · have hq1 : (x2.toList == y2.toList) = false := ne_list h1
                clear hxy h1
                go_wp2_with fail
                go_quiet (fail)
                go_wp2_with fail
                go_ret
                exact ⟨by rw [hfin'.out]; rfl, below_drawN hb'.out _⟩
            · have hq0 : (x1.toList == y1.toList) = false := ne_list h0
              clear hxy h0
              go_wp2_with fail
              go_quiet (fail)
              go_wp2_with fail
              go_ret
              exact ⟨by rw [hfin'.out]; rfl, below_drawN hb'.out _⟩
        · obtain rfl : k = n := by omega
          have hfin : decide (la = lb) = true := decide_eq_true (by
            have := ht.out
            rwa [List.take_of_length_le (by have := hn'.out; omega), List.take_of_length_le (by have := hlen'.out; omega)] at this)
          have hb' := Lib.hid hb; clear hb
          have hfin' := Lib.hid hfin; clear hfin ht
          go_wp2_with fail
          go_ret
          exact ⟨by rw [hfin'.out]; rfl, hb'.out⟩
  · have hne : decide (la = lb) = false := decide_eq_false fun e => hlen (by rw [e])
    have i0 : ¬ (la.length : Int) = (lb.length : Int) := by omega
    have i1 : ((la.length : Int) == (lb.length : Int)) = false := beq_eq_false_iff_ne.2 i0
    have hne' := Lib.hid hne; clear hne hlen hA hB
    go_enter Tryd.func14, Tryd.ntmps14
    go_wp2_with fail
    go_ret
    exact ⟨by rw [hne'.out]; rfl, Below.refl _ _⟩

end Go.Proofs.YtofemhaepadggaaDoor
