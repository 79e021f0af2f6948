/-
  THE WALKS of grammar.Match and match.looks, of, Static, Upward: what the matches of rules look at.
-/
import Derived.Test.YtfihccfjboopiaaRowAt
import Derived.Deep.RegionHeld3
import Derived.Deep.DeepMust
import Derived.Laws.EntriesVeiled
namespace Go.Proofs.Ytfihccfjboopiaa
open Go.RowKit

/-- A term as a value. -/
def termV (k : Int) (n : ByteArray) (o : Int) (v : ByteArray) : Value := .agg #[.int .i64 k, .string n, .int .i64 o, .string v]
def isMatch (o : Int) : Bool := decide (o = 1) || decide (o = 2)

set_option maxHeartbeats 400000 in
theorem gmatch_any (k : Int) (n : ByteArray) (o : Int) (v : ByteArray) (w : World) : Calls Try.prog 30 #[termV k n o v] w fun e w' => e = .returned (.bool (isMatch o)) ∧ Below w.heap.size w w' := by
  have hb : Below w.heap.size w (w.alloc (.cells #[.int .i64 k, .string n, .int .i64 o, .string v] 23)) := (Below.refl _ _).alloc (Nat.le_refl _) _
  have hb' := Lib.hid hb; clear hb
  unfold termV isMatch
  by_cases h1 : o = 1
  · subst h1
    go_enter Try.func30, Try.ntmps30
    go_wp2_with fail
    go_ret
    exact ⟨rfl, hb'.out⟩
  · by_cases h2 : o = 2
    · subst h2
      go_enter Try.func30, Try.ntmps30
      go_wp2_with fail
      go_ret
      exact ⟨rfl, hb'.out⟩
    · have b1 : (o == 1) = false := by rw [beq_eq_false_iff_ne]; exact h1
      have b2 : (o == 2) = false := by rw [beq_eq_false_iff_ne]; exact h2
      have d1 : decide (o = 1) = false := by simpa using h1
      have d2 : decide (o = 2) = false := by simpa using h2
      rw [d1, d2]
      clear d1 d2
      go_enter Try.func30, Try.ntmps30
      go_wp2_with fail
      go_ret
      exact ⟨rfl, hb'.out⟩

/-- What terms with a key look at: of the device alone? upward? by which function. -/
def stK : Nat → Bool
  | 2 | 3 | 4 | 5 => true
  | _ => false
def upK : Nat → Bool
  | 8 | 9 | 10 | 11 => true
  | _ => false
def fnK : Nat → Value
  | 2 | 8 => .func (.func 82) #[] #[]
  | 3 | 9 => .func (.func 83) #[] #[]
  | 4 | 10 => .func (.func 84) #[] #[]
  | 5 | 11 => .func (.func 85) #[] #[]
  | _ => .nilFunc
def lookA (k : Nat) : Array Value := #[.bool (stK k), .bool (upK k), fnK k]
def looksA : Array Value := (List.range 25).flatMap (fun k => (lookA k).toList) |>.toArray
theorem size_looksA : looksA.size = 75 := by kernel_rfl
theorem one_looksA : looksA.all (·.oneCell') = true := by kernel_rfl
theorem zero_looks : Try.zeroCells119 = ((List.range 25).flatMap (fun _ => [Value.bool false, Value.bool false, Value.nilFunc])).toArray := by kernel_rfl
theorem built_looks : Try.prog.built 119 [(2, .agg #[.bool true, .bool false, .func (.func 82) #[] #[]]), (3, .agg #[.bool true, .bool false, .func (.func 83) #[] #[]]), (4, .agg #[.bool true, .bool false, .func (.func 84) #[] #[]]), (5, .agg #[.bool true, .bool false, .func (.func 85) #[] #[]]), (8, .agg #[.bool false, .bool true, .func (.func 82) #[] #[]]), (9, .agg #[.bool false, .bool true, .func (.func 83) #[] #[]]), (10, .agg #[.bool false, .bool true, .func (.func 84) #[] #[]]), (11, .agg #[.bool false, .bool true, .func (.func 85) #[] #[]])] = some looksA := by kernel_rfl
theorem size_looks : (Try.prog.info? 119).map (·.size) = some looksA.size := by kernel_rfl

theorem idx_looks (k : Nat) (hk : k ≤ 24) (W : World) : (Instr.index 119 (.agg looksA) (.int .i64 k)).run Try.prog W = .ok (.agg (lookA k)) W :=
  match k, hk with
  | 0, _ => by kernel_rfl
  | 1, _ => by kernel_rfl
  | 2, _ => by kernel_rfl
  | 3, _ => by kernel_rfl
  | 4, _ => by kernel_rfl
  | 5, _ => by kernel_rfl
  | 6, _ => by kernel_rfl
  | 7, _ => by kernel_rfl
  | 8, _ => by kernel_rfl
  | 9, _ => by kernel_rfl
  | 10, _ => by kernel_rfl
  | 11, _ => by kernel_rfl
  | 12, _ => by kernel_rfl
  | 13, _ => by kernel_rfl
  | 14, _ => by kernel_rfl
  | 15, _ => by kernel_rfl
  | 16, _ => by kernel_rfl
  | 17, _ => by kernel_rfl
  | 18, _ => by kernel_rfl
  | 19, _ => by kernel_rfl
  | 20, _ => by kernel_rfl
  | 21, _ => by kernel_rfl
  | 22, _ => by kernel_rfl
  | 23, _ => by kernel_rfl
  | 24, _ => by kernel_rfl
  | n + 25, h => absurd h (by omega)

set_option maxRecDepth 100000 in
set_option maxHeartbeats 1000000 in
theorem looks_any (w : World) : Calls Try.prog 65 #[] w fun e w' => e = .returned (.agg looksA) ∧ Below w.heap.size w w' := by
  go_enter Try.func65, Try.ntmps65
  go_wp2_with (refine wpList_store_row rfl 119 (.tmp 0) (.tmp 21) rfl w.heap.size looksA rfl (by kernel_rfl) 119 Try.zeroCells119 (heap_alloc_new _ _) size_looks (by kernel_rfl) one_looksA ?_)
  refine bodyPost_ret (results_cell_row rfl _ _ w.heap.size 119 _ (0, 0) _ rfl ((Blk.new _ _ _).row _) Try.underlying119 rfl size_looks) rfl ⟨rfl, below_row ((Below.refl _ _).alloc (Nat.le_refl _) _) (Nat.le_refl _) _⟩

/-- What a term looks at. -/
def ofA (k o : Int) : Array Value := if isMatch o = true ∧ 0 ≤ k ∧ k ≤ 24 then lookA k.toNat else #[.bool false, .bool false, .nilFunc]
theorem fnK_form (k : Nat) : fnK k = .nilFunc ∨ ∃ j, fnK k = .func (.func j) #[] #[] := by
  unfold fnK
  split <;> first | exact .inl rfl | exact .inr ⟨_, rfl⟩

set_option maxRecDepth 100000 in
set_option maxHeartbeats 1000000 in
theorem of_any (k : Int) (n : ByteArray) (o : Int) (v : ByteArray) (w : World) : Calls Try.prog 41 #[termV k n o v] w fun e w' => e = .returned (.agg (ofA k o)) ∧ Below w.heap.size w w' := by
  have hM := fun W => gmatch_any k n o v W
  have hM' := Lib.hid hM; clear hM
  obtain ⟨R, hR⟩ : ∃ R, ofA k o = R := ⟨_, rfl⟩
  rw [hR]
  unfold termV at hM' ⊢
  have hX1 : Hid (Blk (w.alloc (.cells #[.int .i64 k, .string n, .int .i64 o, .string v] 23)) w.heap.size 23 #[.int .i64 k, .string n, .int .i64 o, .string v]) := Blk.new _ _ _
  go_enter Try.func41, Try.ntmps41
  go_wp2_with fail
  have hX2 : Hid (Blk ((w.alloc (.cells #[.int .i64 k, .string n, .int .i64 o, .string v] 23)).alloc (.cells #[.bool false, .bool false, .nilFunc] 71)) (w.heap.size + 1) 71 #[.bool false, .bool false, .nilFunc]) := Blk.new_ _ _ _ (by simp)
  have hX1b : Hid (Blk ((w.alloc (.cells #[.int .i64 k, .string n, .int .i64 o, .string v] 23)).alloc (.cells #[.bool false, .bool false, .nilFunc] 71)) w.heap.size 23 #[.int .i64 k, .string n, .int .i64 o, .string v]) := hX1.out.alloc _
  have hb2 : Hid (Below w.heap.size w ((w.alloc (.cells #[.int .i64 k, .string n, .int .i64 o, .string v] 23)).alloc (.cells #[.bool false, .bool false, .nilFunc] 71))) := ((Below.refl _ _).alloc (Nat.le_refl _) _).alloc (by simp) _
  clear hX1
  generalize (w.alloc (.cells #[.int .i64 k, .string n, .int .i64 o, .string v] 23)).alloc (.cells #[.bool false, .bool false, .nilFunc] 71) = w2 at *
  refine (hM'.out _).mono ?_
  rintro e v1 ⟨rfl, hb1⟩
  have hY1 : Hid (Blk v1 w.heap.size 23 #[.int .i64 k, .string n, .int .i64 o, .string v]) := hX1b.out.below hb1 hX1b.out.lt
  have hY2 : Hid (Blk v1 (w.heap.size + 1) 71 #[.bool false, .bool false, .nilFunc]) := hX2.out.below hb1 hX2.out.lt
  have hb3 : Hid (Below w.heap.size w v1) := hb2.out.trans (hb1.mono hb2.out.size)
  clear hX2 hX1b hb2 hb1 hM'
  have c0 := hY1.out.cell 0
  have r0 := hY2.out.cell 0
  have r1 := hY2.out.cell 1
  have r2 := hY2.out.cell 2
  simp only [List.getElem?_toArray, List.getElem?_cons_zero, List.getElem?_cons_succ] at c0 r0 r1 r2
  have hszL : (Try.prog.info? 71).map (·.size) = some 3 := by kernel_rfl
  by_cases hcond : isMatch o = true ∧ 0 ≤ k ∧ k ≤ 24
  · obtain ⟨hm, hk0, hk24⟩ := hcond
    obtain ⟨kn, rfl⟩ : ∃ kn : Nat, k = kn := ⟨k.toNat, by omega⟩
    have hspec : R = #[.bool (stK kn), .bool (upK kn), fnK kn] := by
      rw [← hR]
      unfold ofA
      rw [if_pos ⟨hm, hk0, hk24⟩]; rfl
    clear hR
    rw [hm]
    have hidx : ∀ W, (Instr.index 119 (.agg looksA) (.int .i64 kn)).run Try.prog W = .ok (.agg #[.bool (stK kn), .bool (upK kn), fnK kn]) W := fun W => idx_looks kn (by omega) W
    have hL := Lib.hid (fun W => looks_any W)
    obtain ⟨fv, hfv, hform⟩ : ∃ fv, fnK kn = fv ∧ (fv = .nilFunc ∨ ∃ j, fv = .func (.func j) #[] #[]) := ⟨_, rfl, fnK_form kn⟩
    rw [hfv] at hidx hspec
    generalize looksA = LA at *
    generalize stK kn = b1 at *
    generalize upK kn = b2 at *
    have hspec' := Lib.hid hspec
    have i0 : ¬ (kn : Int) < 0 := by omega
    have i1 : ¬ (24 : Int) < (kn : Int) := by omega
    clear hfv hspec hm
    have hk : Hid (∀ y, Below v1.drew.heap.size v1.drew y → y.cell? ⟨w.heap.size, 0, none⟩ = some (.int .i64 kn) ∧ y.cell? ⟨w.heap.size + 1, 0, none⟩ = some (.bool false) ∧ y.cell? ⟨w.heap.size + 1, 1, none⟩ = some (.bool false) ∧ y.cell? ⟨w.heap.size + 1, 2, none⟩ = some .nilFunc ∧ y.frozen? ⟨w.heap.size + 1, 0, none⟩ = false ∧ y.frozen? ⟨w.heap.size + 1, 1, none⟩ = false ∧ y.frozen? ⟨w.heap.size + 1, 2, none⟩ = false ∧ y.heap[w.heap.size + 1]? = some (.cells #[.bool false, .bool false, .nilFunc] 71 (0, 0)) ∧ Below w.heap.size w y) := fun y h => by
      have e : Blk y w.heap.size 23 _ := hY1.out.drew.below h hY1.out.drew.lt
      have e2 : Blk y (w.heap.size + 1) 71 _ := hY2.out.drew.below h hY2.out.drew.lt
      exact ⟨(e.cell 0).trans rfl, (e2.cell 0).trans rfl, (e2.cell 1).trans rfl, (e2.cell 2).trans rfl, e2.frozen 0, e2.frozen 1, e2.frozen 2, e2, (Below.drew hb3.out).trans (h.mono (Below.drew hb3.out).size)⟩
    rcases hform with rfl | ⟨j, rfl⟩
    all_goals
      go_wp2_with fail
      (first | (go_must (go_region_with ((first | (go_at_call 65; refine (hL.out _).mono ?_; rintro e y1 ⟨rfl, hy1⟩; obtain ⟨q1, q2, q3, q4, q5, q6, q7, q8, q9⟩ := hk.out _ hy1; replace q9 := Lib.hid q9) | fail)))) | fail)
    all_goals
      have hZ := Lib.hid (fun u => ((Blk.store q8 0 (.bool b1)).store 1 (.bool b2)).store 2 u)
      have hB := Lib.hid (fun u => ((q9.out.setCell (p := ⟨w.heap.size + 1, 0, none⟩) (Nat.le_succ _) (.bool b1)).setCell (p := ⟨w.heap.size + 1, 1, none⟩) (Nat.le_succ _) (.bool b2)).setCell (p := ⟨w.heap.size + 1, 2, none⟩) (Nat.le_succ _) u)
      clear q1 q2 q3 q4 q5 q6 q7 q8 q9 hy1
    all_goals go_wp2_with fail
    all_goals exact bodyPost_ret (results_cell_row rfl _ _ (w.heap.size + 1) 71 _ (0, 0) _ rfl (hZ.out _) Try.underlying71 rfl hszL) rfl ⟨by rw [hspec'.out]; rfl, hB.out _⟩
  · have hspec : R = #[.bool false, .bool false, .nilFunc] := by
      rw [← hR]
      unfold ofA
      rw [if_neg hcond]
    have hspec' := Lib.hid hspec
    clear hR hspec
    have z0 := hY2.out.frozen 0
    have z1 := hY2.out.frozen 1
    have z2 := hY2.out.frozen 2
    have hZ := Lib.hid (((hY2.out.store 0 (.bool false)).store 1 (.bool false)).store 2 .nilFunc)
    have hB := Lib.hid (((hb3.out.setCell (p := ⟨w.heap.size + 1, 0, none⟩) (Nat.le_succ _) (.bool false)).setCell (p := ⟨w.heap.size + 1, 1, none⟩) (Nat.le_succ _) (.bool false)).setCell (p := ⟨w.heap.size + 1, 2, none⟩) (Nat.le_succ _) .nilFunc)
    by_cases hm : isMatch o = true
    · rw [hm]
      by_cases hk0 : k < 0
      · have i0 : decide (k < 0) = true := decide_eq_true hk0
        go_wp2_with fail
        exact bodyPost_ret (results_cell_row rfl _ _ (w.heap.size + 1) 71 _ (0, 0) _ rfl hZ.out Try.underlying71 rfl hszL) rfl ⟨by rw [hspec'.out]; rfl, hB.out⟩
      · have hk24 : 24 < k := by
          by_cases h : 24 < k
          · exact h
          · exact absurd ⟨hm, by omega, by omega⟩ hcond
        have i0 : decide (k < 0) = false := decide_eq_false hk0
        have i0n : ¬ k < 0 := hk0
        have i1 : decide (24 < k) = true := decide_eq_true hk24
        go_wp2_with fail
        exact bodyPost_ret (results_cell_row rfl _ _ (w.heap.size + 1) 71 _ (0, 0) _ rfl hZ.out Try.underlying71 rfl hszL) rfl ⟨by rw [hspec'.out]; rfl, hB.out⟩
    · have hm2 : isMatch o = false := by simpa using hm
      rw [hm2]
      clear hm hcond
      go_wp2_with fail
      exact bodyPost_ret (results_cell_row rfl _ _ (w.heap.size + 1) 71 _ (0, 0) _ rfl hZ.out Try.underlying71 rfl hszL) rfl ⟨by rw [hspec'.out]; rfl, hB.out⟩

/-- Static and upward terms. -/
def stS (k o : Int) : Bool := isMatch o && decide (0 ≤ k) && stK k.toNat
def upS' (k o : Int) : Bool := isMatch o && decide (0 ≤ k) && upK k.toNat
theorem ofA_parts (k o : Int) : ∃ fv, ofA k o = #[.bool (stS k o), .bool (upS' k o), fv] ∧ ((stS k o || upS' k o) = false → fv = .nilFunc) ∧ (fv = .nilFunc ∨ ∃ j, fv = .func (.func j) #[] #[]) := by
  unfold ofA stS upS'
  by_cases hm : isMatch o = true
  · by_cases hk0 : 0 ≤ k
    · by_cases hk : k ≤ 24
      · rw [if_pos ⟨hm, hk0, hk⟩, hm, decide_eq_true hk0]
        refine ⟨fnK k.toNat, rfl, ?_, fnK_form _⟩
        simp only [Bool.true_and]
        generalize k.toNat = n
        intro h
        unfold fnK
        unfold stK upK at h
        split <;> first | rfl | (simp at h)
      · rw [if_neg (fun h => hk h.2.2), hm, decide_eq_true hk0]
        have h1 : stK k.toNat = false := by
          have : 25 ≤ k.toNat := by omega
          generalize k.toNat = n at *
          unfold stK
          split <;> first | rfl | omega
        have h2 : upK k.toNat = false := by
          have : 25 ≤ k.toNat := by omega
          generalize k.toNat = n at *
          unfold upK
          split <;> first | rfl | omega
        rw [h1, h2]
        exact ⟨_, rfl, fun _ => rfl, .inl rfl⟩
    · rw [if_neg (fun h => hk0 h.2.1), decide_eq_false hk0]
      simp only [Bool.and_false, Bool.false_and]
      exact ⟨_, rfl, fun _ => rfl, .inl rfl⟩
  · have hm2 : isMatch o = false := by simpa using hm
    rw [if_neg (fun h => hm h.1), hm2]
    exact ⟨_, rfl, fun _ => rfl, .inl rfl⟩

end Go.Proofs.Ytfihccfjboopiaa
