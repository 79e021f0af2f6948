/-
  THE WALKS of match.Static, Upward, holds and of device.Get.
-/
import Derived.Test.YtfihccfjboopiaaMatchOf
namespace Go.Proofs.Ytfihccfjboopiaa
open Go.RowKit

theorem field_st (st up : Bool) (fv : Value) (W : World) : (Instr.field 71 (.agg #[.bool st, .bool up, fv]) 0).run Try.prog W = .ok (.bool st) W := by kernel_rfl
theorem field_up (st up : Bool) (fv : Value) (W : World) : (Instr.field 71 (.agg #[.bool st, .bool up, fv]) 1).run Try.prog W = .ok (.bool up) W := by kernel_rfl
attribute [local go_sem] field_st field_up

set_option maxRecDepth 100000 in
theorem static_any (k : Int) (n : ByteArray) (o : Int) (v : ByteArray) (w : World) : Calls Try.prog 16 #[termV k n o v] w fun e w' => e = .returned (.bool (stS k o)) ∧ Below w.heap.size w w' := by
  have hO := fun W => of_any k n o v W
  obtain ⟨fv, hfv, _, hform⟩ := ofA_parts k o
  rw [hfv] at hO
  have hO' := Lib.hid hO; clear hO hfv
  generalize stS k o = st at *
  generalize upS' k o = up at *
  unfold termV at *
  have hb : Hid (Below w.heap.size w (w.alloc (.cells #[.int .i64 k, .string n, .int .i64 o, .string v] 23))) := (Below.refl _ _).alloc (Nat.le_refl _) _
  rcases hform with rfl | ⟨j, rfl⟩
  all_goals
    go_enter Try.func16, Try.ntmps16
    go_wp2_with fail
    refine (hO'.out _).mono ?_
    rintro e v1 ⟨rfl, hb1⟩
    have hb2 := Lib.hid (hb.out.trans (hb1.mono hb.out.size)); clear hb1
    go_wp2_with fail
    go_ret
    exact ⟨rfl, hb2.out⟩
set_option maxRecDepth 100000 in
theorem upward_any (k : Int) (n : ByteArray) (o : Int) (v : ByteArray) (w : World) : Calls Try.prog 18 #[termV k n o v] w fun e w' => e = .returned (.bool (upS' k o)) ∧ Below w.heap.size w w' := by
  have hO := fun W => of_any k n o v W
  obtain ⟨fv, hfv, _, hform⟩ := ofA_parts k o
  rw [hfv] at hO
  have hO' := Lib.hid hO; clear hO hfv
  generalize stS k o = st at *
  generalize upS' k o = up at *
  unfold termV at *
  have hb : Hid (Below w.heap.size w (w.alloc (.cells #[.int .i64 k, .string n, .int .i64 o, .string v] 23))) := (Below.refl _ _).alloc (Nat.le_refl _) _
  rcases hform with rfl | ⟨j, rfl⟩
  all_goals
    go_enter Try.func18, Try.ntmps18
    go_wp2_with fail
    refine (hO'.out _).mono ?_
    rintro e v1 ⟨rfl, hb1⟩
    have hb2 := Lib.hid (hb.out.trans (hb1.mono hb.out.size)); clear hb1
    go_wp2_with fail
    go_ret
    exact ⟨rfl, hb2.out⟩

theorem ne_bytes {a b : ByteArray} (h : a ≠ b) : (a.toList == b.toList) = false := by
  rw [beq_eq_false_iff_ne, ByteArray.toList_eq, ByteArray.toList_eq]
  intro e
  apply h
  have := Array.toList_inj.1 e
  cases a; cases b
  simp only at this
  rw [this]
theorem getS_none {l : List Att} {n : ByteArray} (h : ∀ x ∈ l, x.1 ≠ n) : getS l n = (⟨#[]⟩, false) := by
  unfold getS
  rw [List.find?_eq_none.2 fun x hx => by simp [h x hx]]
theorem getS_some {l : List Att} {n : ByteArray} {k : Nat} {x : Att} (hk : l[k]? = some x) (h : ∀ y ∈ l.take k, y.1 ≠ n) (hx : x.1 = n) : getS l n = (x.2, true) := by
  have : l = l.take k ++ x :: l.drop (k + 1) := by
    have hk2 := (List.getElem?_eq_some_iff.1 hk)
    obtain ⟨hlt, e⟩ := hk2
    rw [← e, ← List.drop_eq_getElem_cons hlt, List.take_append_drop]
  unfold getS
  rw [this, List.find?_append, List.find?_eq_none.2 fun y hy => by simp [h y hy]]
  simp [hx]

set_option maxHeartbeats 1000000 in
theorem get_any (l : List Att) (v : Value) (n : ByteArray) (w : World) (hl : RowAt w v 2 (l.map attC)) :
    Calls Try.prog 32 #[v, .string n] w fun e w' => e = .returned (.tuple #[.string (getS l n).1, .bool (getS l n).2]) ∧ Below w.heap.size w w' := by
  obtain ⟨hlen, hl2⟩ := hl
  obtain ⟨R, hR⟩ : ∃ R, getS l n = R := ⟨_, rfl⟩
  rw [hR]
  have hR' := Lib.hid hR; clear hR
  rcases hl2 with ⟨rfl, h0⟩ | ⟨g, o, cap, rfl, hg, hc⟩
  · have hl0 : l = [] := List.map_eq_nil_iff.1 h0
    subst hl0
    have hF : R = (⟨#[]⟩, false) := by rw [← hR'.out]; rfl
    subst hF
    clear hR' hlen h0
    go_enter Try.func32, Try.ntmps32
    go_wp2_with fail
    go_loopw [10] (fun s10 wr => s10 = .int .i64 0 ∧ wr = w) (fun _ _ => 0)
    case atStart => exact ⟨rfl, rfl⟩
    case round =>
      obtain ⟨rfl, rfl⟩ := hrel
      go_wp2_with fail
      go_ret2
      exact ⟨rfl, Below.refl _ _⟩
  · rw [List.length_map] at hlen ⊢
    obtain ⟨m, hm⟩ : ∃ m, l.length = m := ⟨_, rfl⟩
    rw [hm] at hlen ⊢
    have hm' := Lib.hid hm; clear hm
    have hc' : Hid (∀ (k : Nat) (x : Att), l[k]? = some x → w.cell? ⟨g, o + k * 2, none⟩ = some (.string x.1) ∧ w.cell? ⟨g, o + k * 2 + 1, none⟩ = some (.string x.2)) := fun k x hx => by
      have hx2 : (l.map attC)[k]? = some (attC x) := by rw [List.getElem?_map, hx]; rfl
      exact ⟨hc k _ hx2 0 _ rfl, hc k _ hx2 1 _ rfl⟩
    clear hc
    go_enter Try.func32, Try.ntmps32
    go_wp2_with fail
    go_loopw [10] (fun s10 wr => ∃ k : Nat, s10 = .int .i64 k ∧ k ≤ m ∧ Hid (∀ x ∈ l.take k, x.1 ≠ n) ∧ Hid (Below w.heap.size w wr)) (fun s10 _ => m - (intOf s10).toNat)
    case atStart => exact ⟨0, rfl, by omega, (show ∀ x ∈ l.take 0, x.1 ≠ n from fun x hx => by simp at hx), Below.refl _ _⟩
    case round =>
      obtain ⟨k, rfl, hk, hno, hb⟩ := hrel
      by_cases hkm : k < m
      · obtain ⟨x, hx⟩ : ∃ x, l[k]? = some x := ⟨_, List.getElem?_eq_getElem (by have := hm'.out; omega)⟩
        obtain ⟨c0, c1⟩ := hc'.out k x hx
        have e : ∀ i, wr.cell? ⟨g, i, none⟩ = w.cell? ⟨g, i, none⟩ := fun i => World.cell?_of_block (hb.out.block g hg)
        rw [← e] at c0 c1
        have ik : (k : Int) < (m : Int) := by omega
        have ik0 : (0 : Int) ≤ (k : Int) := by omega
        have hx' := Lib.hid hx; clear hx e
        obtain ⟨xk, xv⟩ := x
        simp only at c0 c1
        have hbb : Hid (Below w.heap.size w (wr.alloc (.cells #[.string xk, .string xv] 40))) := hb.out.alloc hb.out.size _
        by_cases hxn : xk = n
        · have hF : R = (xv, true) := by rw [← hR'.out]; exact getS_some hx'.out hno.out hxn
          subst hF
          subst hxn
          clear hno hR'
          go_wp2_with fail
          go_ret2
          exact ⟨rfl, hbb.out⟩
        · have e1 := ne_bytes hxn
          have hno2 : Hid (∀ x ∈ l.take (k + 1), x.1 ≠ n) := fun y hy => by
            rw [List.take_add_one, hx'.out] at hy
            rcases List.mem_append.1 hy with hy | hy
            · exact hno.out y hy
            · simp at hy; subst hy; exact hxn
          clear hno
          go_wp2_with fail
          go_roundw
          case rel => exact ⟨k + 1, by go_num, by omega, hno2, hbb⟩
          case measure => simp [intOf]; omega
      · obtain rfl : k = m := by omega
        have hF : R = (⟨#[]⟩, false) := by
          rw [← hR'.out]
          refine getS_none fun x hx => hno.out x ?_
          rw [List.take_of_length_le (by have := hm'.out; omega)]
          exact hx
        subst hF
        clear hno hR'
        go_wp2_with fail
        go_ret2
        exact ⟨rfl, hb.out⟩

/-- Whether a match holds for a value. -/
def holdsS (o : Int) (p s : ByteArray) : Bool := G.matchS (bs p) (bs s) == decide (o = 1)
set_option maxHeartbeats 1000000 in
theorem holds_any (k : Int) (n : ByteArray) (o : Int) (v s : ByteArray) (w : World) (hv : v.size ≤ 9223372036854775807) (hs : s.size ≤ 9223372036854775807) :
    Calls Try.prog 31 #[termV k n o v, .string s] w fun e w' => e = .returned (.bool (holdsS o v s)) ∧ Below w.heap.size w w' := by
  have hM := fun W => match_any v s W hv hs
  unfold holdsS
  generalize G.matchS (bs v) (bs s) = mt at *
  have hM' := Lib.hid hM; clear hM hv hs
  unfold termV
  have hX : Hid (Blk (w.alloc (.cells #[.int .i64 k, .string n, .int .i64 o, .string v] 23)) w.heap.size 23 #[.int .i64 k, .string n, .int .i64 o, .string v]) := Blk.new _ _ _
  have hb : Hid (Below w.heap.size w (w.alloc (.cells #[.int .i64 k, .string n, .int .i64 o, .string v] 23))) := (Below.refl _ _).alloc (Nat.le_refl _) _
  obtain ⟨q, hq⟩ : ∃ q, decide (o = 1) = q := ⟨_, rfl⟩
  have hq2 : (o == 1) = q := by rw [← hq]; by_cases h : o = 1 <;> simp [h]
  rw [hq]
  go_enter Try.func31, Try.ntmps31
  go_upto_region 1 with fail
  generalize w.alloc (.cells #[.int .i64 k, .string n, .int .i64 o, .string v] 23) = w1 at *
  have c2 := hX.out.cell 2
  have c3 := hX.out.cell 3
  simp only [List.getElem?_toArray, List.getElem?_cons_zero, List.getElem?_cons_succ] at c2 c3
  have hS0 : Below w.heap.size w w1 ∧ w1.cell? ⟨w.heap.size, 2, none⟩ = some (.int .i64 o) ∧ w1.cell? ⟨w.heap.size, 3, none⟩ = some (.string v) := ⟨hb.out, c2, c3⟩
  have hS1 : Below w.heap.size w w1.drew ∧ w1.drew.cell? ⟨w.heap.size, 2, none⟩ = some (.int .i64 o) ∧ w1.drew.cell? ⟨w.heap.size, 3, none⟩ = some (.string v) := ⟨Below.drew hb.out, c2, c3⟩
  have hk : Hid (∀ y, Below w1.drew.heap.size w1.drew y → Below w.heap.size w y ∧ y.cell? ⟨w.heap.size, 2, none⟩ = some (.int .i64 o) ∧ y.cell? ⟨w.heap.size, 3, none⟩ = some (.string v)) := fun y h => by
    have e := hX.out.drew.below h hX.out.drew.lt
    exact ⟨(Below.drew hb.out).trans (h.mono (Below.drew hb.out).size), (e.cell 2).trans rfl, (e.cell 3).trans rfl⟩
  (first | (go_must (go_region_held3 (fun w' => Below w.heap.size w w' ∧ w'.cell? ⟨w.heap.size, 2, none⟩ = some (.int .i64 o) ∧ w'.cell? ⟨w.heap.size, 3, none⟩ = some (.string v))
    ((first | exact hS0 | exact hS1 | exact hk.out _ hy1))
    (first | (go_at_call 13; refine (hM'.out _).mono ?_; rintro e y1 ⟨rfl, hy1⟩) | fail))) | fail)
  have hy := Lib.hid (hk.out _ hy1).1
  clear hy1 hS0 hS1 c2 c3
  go_wp2_with fail
  go_ret
  exact ⟨rfl, hy.out⟩

end Go.Proofs.Ytfihccfjboopiaa
