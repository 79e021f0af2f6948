/-
  THE WALK of coldplugref08.Good: can a token be written?
-/
import Derived.Test.YtofemhaepadggaaDoorLexEsc
import Derived.Test.YtofemhaepadggaaDoorLexRefTok
namespace Go.Proofs.YtofemhaepadggaaDoor
open Go.RowKit

theorem last_bs (v : ByteArray) : decide ((bs v).getLast? ≠ some 92) = !lastB v := by
  unfold lastB
  rw [bs_data, List.getLast?_map]
  cases v.data.toList.getLast? with
  | none => rfl
  | some a =>
    simp only [Option.map_some, ne_eq, Option.some.injEq]
    by_cases h : a = 92
    · subst h; rfl
    · have : ¬ a.toNat = 92 := fun e => h (UInt8.toNat_inj.1 e)
      simp [h, this]
theorem ops_has (o : ByteArray) : L.opsL.contains (bs o) = opsB.any fun y => decide (y = o) := by
  rw [← opsB_L]
  induction opsB with
  | nil => rfl
  | cons a l ih =>
    rw [List.map_cons, List.contains_cons, List.any_cons, ih]
    congr 1
    by_cases h : a = o
    · subst h; simp
    · have h2 : bs o ≠ bs a := fun e => h (bs_inj e).symm
      simp [h, h2]
theorem goodF (x : TB) : L.good x.tok = (decide (bs x.k ≠ []) && (bs x.k).all L.letter && (bs x.n).all L.inName && (opsB.any fun y => decide (y = x.o)) && (bs x.v).all L.valB && !lastB x.v) := by
  unfold L.good TB.tok
  rw [ops_has, last_bs]
theorem all_of {p : Nat → Bool} {s : ByteArray} (h : ∀ j, j < s.size → ∃ c, (bs s)[j]? = some c ∧ p c = true) : (bs s).all p = true := List.all_eq_true.2 fun c hc => by
  obtain ⟨j, hj, he⟩ := List.getElem_of_mem hc
  rw [length_bs] at hj
  obtain ⟨d, h1, h2⟩ := h j hj
  rw [List.getElem?_eq_getElem (by rw [length_bs]; exact hj), he] at h1
  cases h1
  exact h2
theorem all_not {p : Nat → Bool} {s : ByteArray} {k c : Nat} (h : (bs s)[k]? = some c) (hp : p c = false) : (bs s).all p = false :=
  List.all_eq_false.2 ⟨c, List.mem_of_getElem? h, by rw [hp]; simp⟩

theorem ne_listT' {a b : ByteArray} (h : a ≠ b) : (a.toList == b.toList) = false := by
  rw [beq_eq_false_iff_ne, ByteArray.toList_eq, ByteArray.toList_eq]
  intro e
  apply h
  have := Array.toList_inj.1 e
  cases a; cases b
  simp only at this
  rw [this]

set_option maxRecDepth 100000 in
set_option maxHeartbeats 4000000 in
theorem rgood_any (x : TB) (w : World) (h1 : x.k.size ≤ 1000000000) (h2 : x.n.size ≤ 1000000000) (h4 : x.v.size ≤ 1000000000) :
    Calls Tryd.prog 39 #[.agg (tokC x.k x.n x.o x.v)] w fun e w' => e = .returned (.bool (L.good x.tok)) ∧ Below w.heap.size w w' := by
  obtain ⟨G, hG⟩ : ∃ G, L.good x.tok = G := ⟨_, rfl⟩
  rw [hG]
  rw [goodF] at hG
  have hG' := Lib.hid hG; clear hG
  obtain ⟨k0, n0, o0, v0⟩ := x
  simp only at h1 h2 h4 hG' ⊢
  unfold tokC
  have hU' := Lib.hid (fun (c : UInt8) (W : World) => upper_any c W)
  have hN' := Lib.hid (fun (c : UInt8) (W : World) => named_any c W)
  go_enter Tryd.func39, Tryd.ntmps39
  have hX : Hid (Blk (w.alloc (.cells #[.string k0, .string n0, .string o0, .string v0] 40)) w.heap.size 40 #[.string k0, .string n0, .string o0, .string v0]) := Blk.new _ _ _
  have hb : Hid (Below w.heap.size w (w.alloc (.cells #[.string k0, .string n0, .string o0, .string v0] 40))) := (Below.refl _ _).alloc (Nat.le_refl _) _
  go_wp2_with fail
  generalize w.alloc (.cells #[.string k0, .string n0, .string o0, .string v0] 40) = w1 at *
  have c0 := hX.out.cell 0
  have c1 := hX.out.cell 1
  have c2 := hX.out.cell 2
  have c3 := hX.out.cell 3
  simp only [List.getElem?_toArray, List.getElem?_cons_zero, List.getElem?_cons_succ] at c0 c1 c2 c3
  go_loopw [3] (fun s3 wr => ∃ k : Nat, s3 = .int .i64 k ∧ k ≤ k0.size ∧ Hid (∀ j, j < k → ∃ c, (bs k0)[j]? = some c ∧ L.letter c = true) ∧ Hid (wr = w1)) (fun s3 _ => k0.size - (intOf s3).toNat)
  case atStart => exact ⟨0, rfl, by omega, fun j hj => by omega, (by first | exact rfl | exact trivial)⟩
  case round =>
    obtain ⟨k, rfl, hk, ha, hw⟩ := hrel
    obtain rfl : wr = w1 := hw.out
    clear hw
    by_cases hks : k < k0.size
    · have hpk := get_bs k0 k hks
      have hC := hU'.out (k0[k]'hks) wr
      cases hb0 : L.letter (k0[k]'hks).toNat with
      | true =>
        have hfin : ∀ j, j < k + 1 → ∃ c, (bs k0)[j]? = some c ∧ L.letter c = true := fun j hj => by
          rcases Nat.lt_or_ge j k with h | h
          · exact ha.out j h
          · obtain rfl : j = k := by omega
            exact ⟨_, hpk, hb0⟩
        rw [hb0] at hC
        have hC' := Lib.hid hC; clear hC
        have hfin' := Lib.hid hfin; clear hfin ha hpk hb0
        go_wp2_with fail
        refine hC'.out.mono ?_
        rintro e v1 ⟨rfl, rfl⟩
        go_wp2_with fail
        go_roundw
        case rel => exact ⟨k + 1, by go_num, by omega, hfin', (by first | exact rfl | exact trivial)⟩
        case measure => simp [intOf]; omega
      | false =>
        have hbad : G = false := by
          rw [← hG'.out, all_not hpk hb0]; simp
        rw [hb0] at hC
        have hC' := Lib.hid hC; clear hC ha hpk hb0
        have hbad' := Lib.hid hbad; clear hbad
        go_wp2_with fail
        refine hC'.out.mono ?_
        rintro e v1 ⟨rfl, rfl⟩
        go_wp2_with fail
        go_ret
        exact ⟨by rw [hbad'.out]; rfl, hb.out⟩
    · obtain rfl : k = k0.size := by omega
      have hA1 := Lib.hid (all_of ha.out)
      clear ha hU'
      go_wp2_with fail
      go_loopw [4] (fun s4 wx => ∃ k : Nat, s4 = .int .i64 k ∧ k ≤ n0.size ∧ Hid (∀ j, j < k → ∃ c, (bs n0)[j]? = some c ∧ L.inName c = true) ∧ Hid (wx = wr)) (fun s4 _ => n0.size - (intOf s4).toNat)
      case atStart => exact ⟨0, rfl, by omega, fun j hj => by omega, (by first | exact rfl | exact trivial)⟩
      case round =>
        obtain ⟨k, rfl, hk, ha, hw⟩ := hrel
        have hw1 := hw.out
        subst hw1
        clear hw
        by_cases hks : k < n0.size
        · have hpk := get_bs n0 k hks
          have hC := fun W => hN'.out (n0[k]'hks) W
          cases hb0 : L.inName (n0[k]'hks).toNat with
          | true =>
            have hfin : ∀ j, j < k + 1 → ∃ c, (bs n0)[j]? = some c ∧ L.inName c = true := fun j hj => by
              rcases Nat.lt_or_ge j k with h | h
              · exact ha.out j h
              · obtain rfl : j = k := by omega
                exact ⟨_, hpk, hb0⟩
            rw [hb0] at hC
            have hC' := Lib.hid hC; clear hC
            have hfin' := Lib.hid hfin; clear hfin ha hpk hb0
            go_wp2_with fail
            refine (hC'.out _).mono ?_
            rintro e v1 ⟨rfl, rfl⟩
            go_wp2_with fail
            go_roundw
            case rel => exact ⟨k + 1, by go_num, by omega, hfin', (by first | exact rfl | exact trivial)⟩
            case measure => simp [intOf]; omega
          | false =>
            have hbad : G = false := by
              rw [← hG'.out, all_not hpk hb0]; simp
            rw [hb0] at hC
            have hC' := Lib.hid hC; clear hC ha hpk hb0
            have hbad' := Lib.hid hbad; clear hbad
            go_wp2_with fail
            refine (hC'.out _).mono ?_
            rintro e v1 ⟨rfl, rfl⟩
            go_wp2_with fail
            go_ret
            exact ⟨by rw [hbad'.out]; rfl, hb.out⟩
        · obtain rfl : k = n0.size := by omega
          have hA2 := Lib.hid (all_of ha.out)
          clear ha hN'
          obtain ⟨w3, hw3⟩ : ∃ y : World, y = wr := ⟨_, rfl⟩
          subst hw3
          go_wp2_with fail
          go_loopw [5] (fun s5 wx => ∃ k : Nat, s5 = .int .i64 k ∧ k ≤ v0.size ∧ Hid (∀ j, j < k → ∃ c, (bs v0)[j]? = some c ∧ L.valB c = true) ∧ Hid (wx = w3)) (fun s5 _ => v0.size - (intOf s5).toNat)
          case atStart => exact ⟨0, rfl, by omega, fun j hj => by omega, (by first | exact rfl | exact trivial)⟩
          case round =>
            obtain ⟨k, rfl, hk, ha, hw⟩ := hrel
            have hw1 := hw.out
            subst hw1
            clear hw
            by_cases hks : k < v0.size
            · have hpk := get_bs v0 k hks
              have ik : (k : Int) < (v0.size : Int) := by omega
              have ik0 : (0 : Int) ≤ (k : Int) := by omega
              have hbad : L.valB (v0[k]'hks).toNat = false → G = false := fun hb0 => by
                rw [← hG'.out, all_not hpk hb0]; simp
              by_cases h32 : 32 ≤ (v0[k]'hks).toNat
              · have i32 : ¬ ((v0[k]'hks).toNat : Int) < 32 := by omega
                by_cases h126 : (v0[k]'hks).toNat ≤ 126
                · have i126 : ¬ (126 : Int) < ((v0[k]'hks).toNat : Int) := by omega
                  have hg : Hid (∀ j, j < k + 1 → ∃ c, (bs v0)[j]? = some c ∧ L.valB c = true) := fun j hj => by
                    rcases Nat.lt_or_ge j k with h | h
                    · exact ha.out j h
                    · obtain rfl : j = k := by omega
                      exact ⟨_, hpk, by unfold L.valB; rw [decide_eq_true h32, decide_eq_true h126]; rfl⟩
                  clear hbad hpk ha
                  go_wp2_with fail
                  go_roundw
                  case rel => exact ⟨k + 1, by go_num, by omega, hg, (by first | exact rfl | exact trivial)⟩
                  case measure => simp [intOf]; omega
                · have i126 : (126 : Int) < ((v0[k]'hks).toNat : Int) := by omega
                  have hg := Lib.hid (hbad (by unfold L.valB; rw [decide_eq_false h126]; simp))
                  clear hbad hpk ha
                  go_wp2_with fail
                  go_ret
                  exact ⟨by rw [hg.out]; rfl, hb.out⟩
              · have i32 : ((v0[k]'hks).toNat : Int) < 32 := by omega
                have hg := Lib.hid (hbad (by unfold L.valB; rw [decide_eq_false h32]; simp))
                clear hbad hpk ha
                go_wp2_with fail
                go_ret
                exact ⟨by rw [hg.out]; rfl, hb.out⟩
            · obtain rfl : k = v0.size := by omega
              have hA3 := Lib.hid (all_of ha.out)
              clear ha
              obtain ⟨w4, hw4⟩ : ∃ y : World, y = wr := ⟨_, rfl⟩
              subst hw4
              have hO' := Lib.hid (rops_any w4)
              have hG2 := hG'.out
              rw [hA1.out, hA2.out, hA3.out] at hG2
              have hG3 := Lib.hid hG2; clear hG2 hG' hA1 hA2 hA3
              go_wp2_with fail
              refine hO'.out.mono ?_
              rintro e v4 ⟨rfl, rfl⟩
              clear hO' c0 c1 c2 c3
              have hOB : Hid (Blk (w4.alloc (.cells (opsB.map Value.string).toArray 9)) w4.heap.size 9 (opsB.map Value.string).toArray) := Blk.new _ _ _
              have hX4 : Hid (Blk (w4.alloc (.cells (opsB.map Value.string).toArray 9)) w.heap.size 40 #[.string k0, .string n0, .string o0, .string v0]) := hX.out.alloc _
              have hb4 : Hid (Below w.heap.size w (w4.alloc (.cells (opsB.map Value.string).toArray 9))) := hb.out.alloc hb.out.size _
              clear hX hb
              generalize w4.alloc (.cells (opsB.map Value.string).toArray 9) = w5 at *
              go_wp2_with fail
              go_loopw [6, 8] (fun s6 s8 wx => ∃ k : Nat, s8 = .int .i64 k ∧ k ≤ 6 ∧ s6 = .bool ((opsB.take k).any fun y => decide (y = o0)) ∧ Hid (Blk wx w4.heap.size 9 (opsB.map Value.string).toArray) ∧ Hid (Blk wx w.heap.size 40 #[.string k0, .string n0, .string o0, .string v0]) ∧ Hid (Below w.heap.size w wx)) (fun _ s8 _ => 6 - (intOf s8).toNat)
              case atStart => exact ⟨0, rfl, by omega, rfl, hOB, hX4, hb4⟩
              case round =>
                clear hOB hX4 hb4
                obtain ⟨k, rfl, hk, rfl, hO, hX, hb⟩ := hrel
                by_cases hk6 : k < 6
                · obtain ⟨y, hy⟩ : ∃ y, opsB[k]? = some y := ⟨_, List.getElem?_eq_getElem (by simpa [opsB] using hk6)⟩
                  have cy : wr.cell? ⟨w4.heap.size, k, none⟩ = some (.string y) := (hO.out.cell k).trans (by simp [hy])
                  have c2 := hX.out.cell 2
                  simp only [List.getElem?_toArray, List.getElem?_cons_zero, List.getElem?_cons_succ] at c2
                  have hnx : (opsB.take (k + 1)).any (fun y => decide (y = o0)) = ((opsB.take k).any (fun y => decide (y = o0)) || decide (y = o0)) := by
                    rw [List.take_add_one, hy, List.any_append]; simp
                  have ik : (k : Int) < 6 := by omega
                  have ik0 : (0 : Int) ≤ (k : Int) := by omega
                  have hnx' := Lib.hid hnx; clear hnx hy
                  generalize (opsB.take k).any (fun y => decide (y = o0)) = b at *
                  cases b with
                  | true =>
                    clear cy c2
                    go_wp2_with fail
                    go_quiet (fail)
                    go_wp2_with fail
                    go_roundw
                    case rel => exact ⟨k + 1, by go_num, by omega, by rw [hnx'.out]; rfl, hO.out.drewN _, hX.out.drewN _, below_drawN hb.out _⟩
                    case measure => simp [intOf]; omega
                  | false =>
                    by_cases hyo : y = o0
                    · subst hyo
                      have e1 : (y.toList == y.toList) = true := by simp
                      go_wp2_with fail
                      go_quiet (fail)
                      go_wp2_with fail
                      go_roundw
                      case rel => exact ⟨k + 1, by go_num, by omega, by rw [hnx'.out]; simp, hO.out.drewN _, hX.out.drewN _, below_drawN hb.out _⟩
                      case measure => simp [intOf]; omega
                    · have e1 : (y.toList == o0.toList) = false := ne_listT' hyo
                      have e2 : decide (y = o0) = false := decide_eq_false hyo
                      go_wp2_with fail
                      go_quiet (fail)
                      go_wp2_with fail
                      go_roundw
                      case rel => exact ⟨k + 1, by go_num, by omega, by rw [hnx'.out, e2]; rfl, hO.out.drewN _, hX.out.drewN _, below_drawN hb.out _⟩
                      case measure => simp [intOf]; omega
                · obtain rfl : k = 6 := by omega
                  have ht : opsB.take 6 = opsB := rfl
                  rw [ht]
                  have hG4 := hG3.out
                  have c0 := hX.out.cell 0
                  have c3 := hX.out.cell 3
                  simp only [List.getElem?_toArray, List.getElem?_cons_zero, List.getElem?_cons_succ] at c0 c3
                  have hS := hass_any v0 wr (by omega)
                  generalize lastB v0 = lb at *
                  have hS' := Lib.hid hS; clear hS
                  generalize opsB.any (fun y => decide (y = o0)) = b at *
                  by_cases hk0 : k0.size = 0
                  · have e1 : (k0.toList == []) = true := list_emp hk0
                    have e2 : k0.toList.isEmpty = true := isEmpty_zero hk0
                    have hbk : bs k0 = [] := List.eq_nil_of_length_eq_zero (by rw [length_bs]; exact hk0)
                    have hG5 : G = false := by rw [← hG4, hbk]; simp
                    have hG6 := Lib.hid hG5; clear hG5 hG4 hG3 hbk
                    go_wp2_with fail
                    go_ret
                    exact ⟨by rw [hG6.out]; rfl, hb.out⟩
                  · have e1 : (k0.toList == []) = false := list_ne k0 (by omega)
                    have e2 : k0.toList.isEmpty = false := by
                      have h := e1
                      cases hl : k0.toList with
                      | nil => rw [hl] at h; cases h
                      | cons a l => rfl
                    have hbk : bs k0 ≠ [] := fun h => hk0 (by rw [← length_bs, h]; rfl)
                    have hG5 : G = (b && !lb) := by rw [← hG4]; simp [hbk]
                    have hG6 := Lib.hid hG5; clear hG5 hG4 hG3 hbk
                    cases b with
                    | false =>
                      go_wp2_with fail
                      go_ret
                      exact ⟨by rw [hG6.out]; rfl, hb.out⟩
                    | true =>
                      go_wp2_with fail
                      refine hS'.out.mono ?_
                      rintro e v6 ⟨rfl, rfl⟩
                      go_wp2_with fail
                      go_ret
                      exact ⟨by rw [hG6.out]; cases lb <;> rfl, hb.out⟩

end Go.Proofs.YtofemhaepadggaaDoor
