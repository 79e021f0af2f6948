/-
  ROWS IN MEMORY, TO BE READ: of whatever elements; attributes, devices, terms as cells.
  THE WALKS of grammar.Match and match.looks, of, Static, Upward: what the matches of rules look at.
  THE WALKS of match.Static, Upward, holds and of device.Get.
-/
import Derived.Test.YtinjeijjfkkhbaaGreatDoorGlobMatchFn
import Derived.Deep.RegionHeld3
import Derived.Deep.DeepMust
import Derived.Laws.EntriesVeiled
namespace Go.Proofs.YtinjeijjfkkhbaaGreatDoor
open Go.RowKit

/-- A slice whose elements are rows of sz cells. -/
def RowAt (w : World) (v : Value) (sz : Nat) (l : List (List Value)) : Prop :=
  l.length ≤ 9223372036854775807 ∧ ((v = .slice none 0 0 ∧ l = []) ∨ ∃ g o cap, v = .slice (some ⟨g, o, none⟩) l.length cap ∧ g < w.heap.size ∧
    ∀ (k : Nat) (xs : List Value), l[k]? = some xs → ∀ (j : Nat) (u : Value), xs[j]? = some u → w.cell? ⟨g, o + k * sz + j, none⟩ = some u)
theorem RowAt.same {w w' : World} {v : Value} {sz : Nat} {l : List (List Value)} (h : RowAt w v sz l) (hs : w.heap.size ≤ w'.heap.size) (hb : ∀ g o n c, v = .slice (some ⟨g, o, none⟩) n c → w'.heap[g]? = w.heap[g]?) : RowAt w' v sz l := by
  refine ⟨h.1, ?_⟩
  rcases h.2 with h | ⟨g, o, cap, rfl, hg, hc⟩
  · exact .inl h
  · exact .inr ⟨g, o, cap, rfl, by omega, fun k xs hx j u hu => (World.cell?_of_block (hb g o _ cap rfl)).trans (hc k xs hx j u hu)⟩
theorem RowAt.below {w w' : World} {v : Value} {sz : Nat} {l : List (List Value)} (h : RowAt w v sz l) (hb : Below w.heap.size w w') : RowAt w' v sz l := by
  refine ⟨h.1, ?_⟩
  rcases h.2 with h | ⟨g, o, cap, rfl, hg, hc⟩
  · exact .inl h
  · exact .inr ⟨g, o, cap, rfl, by have := hb.size; omega, fun k xs hx j u hu => (World.cell?_of_block (hb.block g hg)).trans (hc k xs hx j u hu)⟩

abbrev Att := ByteArray × ByteArray
def attC (x : Att) : List Value := [.string x.1, .string x.2]
/-- The value of the first attribute with a name. -/
def getS (l : List Att) (n : ByteArray) : ByteArray × Bool := match l.find? (fun x => decide (x.1 = n)) with
  | some x => (x.2, true)
  | none => (⟨#[]⟩, false)

/-- A device; aa, an, ac: its attributes' slice; att: what they are. -/
structure Dev where
  idx : Int
  par : Int
  name : ByteArray
  orig : ByteArray
  sub : ByteArray
  drv : ByteArray
  ali : ByteArray
  kind : Int
  num : Int
  aa : Option Addr
  an : Nat
  ac : Nat
  att : List Att
def Dev.atv (d : Dev) : Value := .slice d.aa d.an d.ac
def devC (d : Dev) : List Value := [.int .i64 d.idx, .int .i64 d.par, .string d.name, .string d.orig, .string d.sub, .string d.drv, .string d.ali, .int .i64 d.kind, .int .i64 d.num, d.atv]
def DevAt (w : World) (d : Dev) : Prop := RowAt w d.atv 2 (d.att.map attC)
def DevsAt (w : World) (v : Value) (l : List Dev) : Prop := RowAt w v 10 (l.map devC) ∧ ∀ d ∈ l, DevAt w d
theorem DevsAt.below {w w' : World} {v : Value} {l : List Dev} (h : DevsAt w v l) (hb : Below w.heap.size w w') : DevsAt w' v l := ⟨h.1.below hb, fun d hd => (h.2 d hd).below hb⟩

/-- A term. -/
structure Trm where
  k : Int
  n : ByteArray
  o : Int
  v : ByteArray
def trmC (t : Trm) : List Value := [.int .i64 t.k, .string t.n, .int .i64 t.o, .string t.v]
def TrmsAt (w : World) (v : Value) (l : List Trm) : Prop := RowAt w v 4 (l.map trmC)

end Go.Proofs.YtinjeijjfkkhbaaGreatDoor

namespace Go.Proofs.YtinjeijjfkkhbaaGreatDoor
open Go.RowKit

/-- A term as a value. -/
def termV (k : Int) (n : ByteArray) (o : Int) (v : ByteArray) : Value := .agg #[.int .i64 k, .string n, .int .i64 o, .string v]
def isMatch (o : Int) : Bool := decide (o = 1) || decide (o = 2)

set_option maxHeartbeats 400000 in
theorem gmatch_any (k : Int) (n : ByteArray) (o : Int) (v : ByteArray) (w : World) : Calls Tryz.prog 33 #[termV k n o v] w fun e w' => e = .returned (.bool (isMatch o)) ∧ Below w.heap.size w w' := by
  have hb : Below w.heap.size w (w.alloc (.cells #[.int .i64 k, .string n, .int .i64 o, .string v] 46)) := (Below.refl _ _).alloc (Nat.le_refl _) _
  have hb' := Lib.hid hb; clear hb
  unfold termV isMatch
  by_cases h1 : o = 1
  · subst h1
    go_enter Tryz.func33, Tryz.ntmps33
    go_wp2_with fail
    go_ret
    exact ⟨rfl, hb'.out⟩
  · by_cases h2 : o = 2
    · subst h2
      go_enter Tryz.func33, Tryz.ntmps33
      go_wp2_with fail
      go_ret
      exact ⟨rfl, hb'.out⟩
    · have b1 : (o == 1) = false := by rw [beq_eq_false_iff_ne]; exact h1
      have b2 : (o == 2) = false := by rw [beq_eq_false_iff_ne]; exact h2
      have d1 : decide (o = 1) = false := by simpa using h1
      have d2 : decide (o = 2) = false := by simpa using h2
      rw [d1, d2]
      clear d1 d2
      go_enter Tryz.func33, Tryz.ntmps33
      go_wp2_with fail
      go_ret
      exact ⟨rfl, hb'.out⟩

/-- What terms with a key look at: of the device alone? upward? by which function. -/
def stK : Nat → Bool
  | 2 | 3 | 4 | 5 => true
  | _ => false
def upK : Nat → Bool
  | 8 | 9 | 10 | 11 => true
  | _ => false
def fnK : Nat → Value
  | 2 | 8 => .func (.func 72) #[] #[]
  | 3 | 9 => .func (.func 73) #[] #[]
  | 4 | 10 => .func (.func 74) #[] #[]
  | 5 | 11 => .func (.func 75) #[] #[]
  | _ => .nilFunc
def lookA (k : Nat) : Array Value := #[.bool (stK k), .bool (upK k), fnK k]
def looksA : Array Value := (List.range 25).flatMap (fun k => (lookA k).toList) |>.toArray
theorem size_looksA : looksA.size = 75 := by kernel_rfl
theorem one_looksA : looksA.all (·.oneCell') = true := by kernel_rfl
theorem zero_looks : Tryz.zeroCells97 = ((List.range 25).flatMap (fun _ => [Value.bool false, Value.bool false, Value.nilFunc])).toArray := by kernel_rfl
theorem built_looks : Tryz.prog.built 97 [(2, .agg #[.bool true, .bool false, .func (.func 72) #[] #[]]), (3, .agg #[.bool true, .bool false, .func (.func 73) #[] #[]]), (4, .agg #[.bool true, .bool false, .func (.func 74) #[] #[]]), (5, .agg #[.bool true, .bool false, .func (.func 75) #[] #[]]), (8, .agg #[.bool false, .bool true, .func (.func 72) #[] #[]]), (9, .agg #[.bool false, .bool true, .func (.func 73) #[] #[]]), (10, .agg #[.bool false, .bool true, .func (.func 74) #[] #[]]), (11, .agg #[.bool false, .bool true, .func (.func 75) #[] #[]])] = some looksA := by kernel_rfl
theorem size_looks : (Tryz.prog.info? 97).map (·.size) = some looksA.size := by kernel_rfl

theorem idx_looks (k : Nat) (hk : k ≤ 24) (W : World) : (Instr.index 97 (.agg looksA) (.int .i64 k)).run Tryz.prog W = .ok (.agg (lookA k)) W :=
  match k, hk with
  | 0, _ => by kernel_rfl
  | 1, _ => by kernel_rfl
  | 2, _ => by kernel_rfl
  | 3, _ => by kernel_rfl
  | 4, _ => by kernel_rfl
  | 5, _ => by kernel_rfl
  | 6, _ => by kernel_rfl
  | 7, _ => by kernel_rfl
  | 8, _ => by kernel_rfl
  | 9, _ => by kernel_rfl
  | 10, _ => by kernel_rfl
  | 11, _ => by kernel_rfl
  | 12, _ => by kernel_rfl
  | 13, _ => by kernel_rfl
  | 14, _ => by kernel_rfl
  | 15, _ => by kernel_rfl
  | 16, _ => by kernel_rfl
  | 17, _ => by kernel_rfl
  | 18, _ => by kernel_rfl
  | 19, _ => by kernel_rfl
  | 20, _ => by kernel_rfl
  | 21, _ => by kernel_rfl
  | 22, _ => by kernel_rfl
  | 23, _ => by kernel_rfl
  | 24, _ => by kernel_rfl
  | n + 25, h => absurd h (by omega)

set_option maxRecDepth 100000 in
set_option maxHeartbeats 1000000 in
theorem looks_any (w : World) : Calls Tryz.prog 59 #[] w fun e w' => e = .returned (.agg looksA) ∧ Below w.heap.size w w' := by
  go_enter Tryz.func59, Tryz.ntmps59
  go_wp2_with (refine wpList_store_row rfl 97 (.tmp 0) (.tmp 21) rfl w.heap.size looksA rfl (by kernel_rfl) 97 Tryz.zeroCells97 (heap_alloc_new _ _) size_looks (by kernel_rfl) one_looksA ?_)
  refine bodyPost_ret (results_cell_row rfl _ _ w.heap.size 97 _ (0, 0) _ rfl ((Blk.new _ _ _).row _) Tryz.underlying97 rfl size_looks) rfl ⟨rfl, below_row ((Below.refl _ _).alloc (Nat.le_refl _) _) (Nat.le_refl _) _⟩

/-- What a term looks at. -/
def ofA (k o : Int) : Array Value := if isMatch o = true ∧ 0 ≤ k ∧ k ≤ 24 then lookA k.toNat else #[.bool false, .bool false, .nilFunc]
theorem fnK_form (k : Nat) : fnK k = .nilFunc ∨ ∃ j, fnK k = .func (.func j) #[] #[] := by
  unfold fnK
  split <;> first | exact .inl rfl | exact .inr ⟨_, rfl⟩

set_option maxRecDepth 100000 in
set_option maxHeartbeats 1000000 in
theorem of_any (k : Int) (n : ByteArray) (o : Int) (v : ByteArray) (w : World) : Calls Tryz.prog 31 #[termV k n o v] w fun e w' => e = .returned (.agg (ofA k o)) ∧ Below w.heap.size w w' := by
  have hM := fun W => gmatch_any k n o v W
  have hM' := Lib.hid hM; clear hM
  obtain ⟨R, hR⟩ : ∃ R, ofA k o = R := ⟨_, rfl⟩
  rw [hR]
  unfold termV at hM' ⊢
  have hX1 : Hid (Blk (w.alloc (.cells #[.int .i64 k, .string n, .int .i64 o, .string v] 46)) w.heap.size 46 #[.int .i64 k, .string n, .int .i64 o, .string v]) := Blk.new _ _ _
  go_enter Tryz.func31, Tryz.ntmps31
  go_wp2_with fail
  have hX2 : Hid (Blk ((w.alloc (.cells #[.int .i64 k, .string n, .int .i64 o, .string v] 46)).alloc (.cells #[.bool false, .bool false, .nilFunc] 76)) (w.heap.size + 1) 76 #[.bool false, .bool false, .nilFunc]) := Blk.new_ _ _ _ (by simp)
  have hX1b : Hid (Blk ((w.alloc (.cells #[.int .i64 k, .string n, .int .i64 o, .string v] 46)).alloc (.cells #[.bool false, .bool false, .nilFunc] 76)) w.heap.size 46 #[.int .i64 k, .string n, .int .i64 o, .string v]) := hX1.out.alloc _
  have hb2 : Hid (Below w.heap.size w ((w.alloc (.cells #[.int .i64 k, .string n, .int .i64 o, .string v] 46)).alloc (.cells #[.bool false, .bool false, .nilFunc] 76))) := ((Below.refl _ _).alloc (Nat.le_refl _) _).alloc (by simp) _
  clear hX1
  generalize (w.alloc (.cells #[.int .i64 k, .string n, .int .i64 o, .string v] 46)).alloc (.cells #[.bool false, .bool false, .nilFunc] 76) = w2 at *
  refine (hM'.out _).mono ?_
  rintro e v1 ⟨rfl, hb1⟩
  have hY1 : Hid (Blk v1 w.heap.size 46 #[.int .i64 k, .string n, .int .i64 o, .string v]) := hX1b.out.below hb1 hX1b.out.lt
  have hY2 : Hid (Blk v1 (w.heap.size + 1) 76 #[.bool false, .bool false, .nilFunc]) := hX2.out.below hb1 hX2.out.lt
  have hb3 : Hid (Below w.heap.size w v1) := hb2.out.trans (hb1.mono hb2.out.size)
  clear hX2 hX1b hb2 hb1 hM'
  have c0 := hY1.out.cell 0
  have r0 := hY2.out.cell 0
  have r1 := hY2.out.cell 1
  have r2 := hY2.out.cell 2
  simp only [List.getElem?_toArray, List.getElem?_cons_zero, List.getElem?_cons_succ] at c0 r0 r1 r2
  have hszL : (Tryz.prog.info? 76).map (·.size) = some 3 := by kernel_rfl
  by_cases hcond : isMatch o = true ∧ 0 ≤ k ∧ k ≤ 24
  · obtain ⟨hm, hk0, hk24⟩ := hcond
    obtain ⟨kn, rfl⟩ : ∃ kn : Nat, k = kn := ⟨k.toNat, by omega⟩
    have hspec : R = #[.bool (stK kn), .bool (upK kn), fnK kn] := by
      rw [← hR]
      unfold ofA
      rw [if_pos ⟨hm, hk0, hk24⟩]; rfl
    clear hR
    rw [hm]
    have hidx : ∀ W, (Instr.index 97 (.agg looksA) (.int .i64 kn)).run Tryz.prog W = .ok (.agg #[.bool (stK kn), .bool (upK kn), fnK kn]) W := fun W => idx_looks kn (by omega) W
    have hL := Lib.hid (fun W => looks_any W)
    obtain ⟨fv, hfv, hform⟩ : ∃ fv, fnK kn = fv ∧ (fv = .nilFunc ∨ ∃ j, fv = .func (.func j) #[] #[]) := ⟨_, rfl, fnK_form kn⟩
    rw [hfv] at hidx hspec
    generalize looksA = LA at *
    generalize stK kn = b1 at *
    generalize upK kn = b2 at *
    have hspec' := Lib.hid hspec
    have i0 : ¬ (kn : Int) < 0 := by omega
    have i1 : ¬ (24 : Int) < (kn : Int) := by omega
    clear hfv hspec hm
    have hk : Hid (∀ y, Below v1.drew.heap.size v1.drew y → y.cell? ⟨w.heap.size, 0, none⟩ = some (.int .i64 kn) ∧ y.cell? ⟨w.heap.size + 1, 0, none⟩ = some (.bool false) ∧ y.cell? ⟨w.heap.size + 1, 1, none⟩ = some (.bool false) ∧ y.cell? ⟨w.heap.size + 1, 2, none⟩ = some .nilFunc ∧ y.frozen? ⟨w.heap.size + 1, 0, none⟩ = false ∧ y.frozen? ⟨w.heap.size + 1, 1, none⟩ = false ∧ y.frozen? ⟨w.heap.size + 1, 2, none⟩ = false ∧ y.heap[w.heap.size + 1]? = some (.cells #[.bool false, .bool false, .nilFunc] 76 (0, 0)) ∧ Below w.heap.size w y) := fun y h => by
      have e : Blk y w.heap.size 46 _ := hY1.out.drew.below h hY1.out.drew.lt
      have e2 : Blk y (w.heap.size + 1) 76 _ := hY2.out.drew.below h hY2.out.drew.lt
      exact ⟨(e.cell 0).trans rfl, (e2.cell 0).trans rfl, (e2.cell 1).trans rfl, (e2.cell 2).trans rfl, e2.frozen 0, e2.frozen 1, e2.frozen 2, e2, (Below.drew hb3.out).trans (h.mono (Below.drew hb3.out).size)⟩
    rcases hform with rfl | ⟨j, rfl⟩
    all_goals
      go_wp2_with fail
      (first | (go_must (go_region_with ((first | (go_at_call 59; refine (hL.out _).mono ?_; rintro e y1 ⟨rfl, hy1⟩; obtain ⟨q1, q2, q3, q4, q5, q6, q7, q8, q9⟩ := hk.out _ hy1; replace q9 := Lib.hid q9) | fail)))) | fail)
    all_goals
      have hZ := Lib.hid (fun u => ((Blk.store q8 0 (.bool b1)).store 1 (.bool b2)).store 2 u)
      have hB := Lib.hid (fun u => ((q9.out.setCell (p := ⟨w.heap.size + 1, 0, none⟩) (Nat.le_succ _) (.bool b1)).setCell (p := ⟨w.heap.size + 1, 1, none⟩) (Nat.le_succ _) (.bool b2)).setCell (p := ⟨w.heap.size + 1, 2, none⟩) (Nat.le_succ _) u)
      clear q1 q2 q3 q4 q5 q6 q7 q8 q9 hy1
    all_goals go_wp2_with fail
    all_goals exact bodyPost_ret (results_cell_row rfl _ _ (w.heap.size + 1) 76 _ (0, 0) _ rfl (hZ.out _) Tryz.underlying76 rfl hszL) rfl ⟨by rw [hspec'.out]; rfl, hB.out _⟩
  · have hspec : R = #[.bool false, .bool false, .nilFunc] := by
      rw [← hR]
      unfold ofA
      rw [if_neg hcond]
    have hspec' := Lib.hid hspec
    clear hR hspec
    have z0 := hY2.out.frozen 0
    have z1 := hY2.out.frozen 1
    have z2 := hY2.out.frozen 2
    have hZ := Lib.hid (((hY2.out.store 0 (.bool false)).store 1 (.bool false)).store 2 .nilFunc)
    have hB := Lib.hid (((hb3.out.setCell (p := ⟨w.heap.size + 1, 0, none⟩) (Nat.le_succ _) (.bool false)).setCell (p := ⟨w.heap.size + 1, 1, none⟩) (Nat.le_succ _) (.bool false)).setCell (p := ⟨w.heap.size + 1, 2, none⟩) (Nat.le_succ _) .nilFunc)
    by_cases hm : isMatch o = true
    · rw [hm]
      by_cases hk0 : k < 0
      · have i0 : decide (k < 0) = true := decide_eq_true hk0
        go_wp2_with fail
        exact bodyPost_ret (results_cell_row rfl _ _ (w.heap.size + 1) 76 _ (0, 0) _ rfl hZ.out Tryz.underlying76 rfl hszL) rfl ⟨by rw [hspec'.out]; rfl, hB.out⟩
      · have hk24 : 24 < k := by
          by_cases h : 24 < k
          · exact h
          · exact absurd ⟨hm, by omega, by omega⟩ hcond
        have i0 : decide (k < 0) = false := decide_eq_false hk0
        have i0n : ¬ k < 0 := hk0
        have i1 : decide (24 < k) = true := decide_eq_true hk24
        go_wp2_with fail
        exact bodyPost_ret (results_cell_row rfl _ _ (w.heap.size + 1) 76 _ (0, 0) _ rfl hZ.out Tryz.underlying76 rfl hszL) rfl ⟨by rw [hspec'.out]; rfl, hB.out⟩
    · have hm2 : isMatch o = false := by simpa using hm
      rw [hm2]
      clear hm hcond
      go_wp2_with fail
      exact bodyPost_ret (results_cell_row rfl _ _ (w.heap.size + 1) 76 _ (0, 0) _ rfl hZ.out Tryz.underlying76 rfl hszL) rfl ⟨by rw [hspec'.out]; rfl, hB.out⟩

/-- Static and upward terms. -/
def stS (k o : Int) : Bool := isMatch o && decide (0 ≤ k) && stK k.toNat
def upS' (k o : Int) : Bool := isMatch o && decide (0 ≤ k) && upK k.toNat
theorem ofA_parts (k o : Int) : ∃ fv, ofA k o = #[.bool (stS k o), .bool (upS' k o), fv] ∧ ((stS k o || upS' k o) = false → fv = .nilFunc) ∧ (fv = .nilFunc ∨ ∃ j, fv = .func (.func j) #[] #[]) := by
  unfold ofA stS upS'
  by_cases hm : isMatch o = true
  · by_cases hk0 : 0 ≤ k
    · by_cases hk : k ≤ 24
      · rw [if_pos ⟨hm, hk0, hk⟩, hm, decide_eq_true hk0]
        refine ⟨fnK k.toNat, rfl, ?_, fnK_form _⟩
        simp only [Bool.true_and]
        generalize k.toNat = n
        intro h
        unfold fnK
        unfold stK upK at h
        split <;> first | rfl | (simp at h)
      · rw [if_neg (fun h => hk h.2.2), hm, decide_eq_true hk0]
        have h1 : stK k.toNat = false := by
          have : 25 ≤ k.toNat := by omega
          generalize k.toNat = n at *
          unfold stK
          split <;> first | rfl | omega
        have h2 : upK k.toNat = false := by
          have : 25 ≤ k.toNat := by omega
          generalize k.toNat = n at *
          unfold upK
          split <;> first | rfl | omega
        rw [h1, h2]
        exact ⟨_, rfl, fun _ => rfl, .inl rfl⟩
    · rw [if_neg (fun h => hk0 h.2.1), decide_eq_false hk0]
      simp only [Bool.and_false, Bool.false_and]
      exact ⟨_, rfl, fun _ => rfl, .inl rfl⟩
  · have hm2 : isMatch o = false := by simpa using hm
    rw [if_neg (fun h => hm h.1), hm2]
    exact ⟨_, rfl, fun _ => rfl, .inl rfl⟩

end Go.Proofs.YtinjeijjfkkhbaaGreatDoor

namespace Go.Proofs.YtinjeijjfkkhbaaGreatDoor
open Go.RowKit

theorem field_st (st up : Bool) (fv : Value) (W : World) : (Instr.field 76 (.agg #[.bool st, .bool up, fv]) 0).run Tryz.prog W = .ok (.bool st) W := by kernel_rfl
theorem field_up (st up : Bool) (fv : Value) (W : World) : (Instr.field 76 (.agg #[.bool st, .bool up, fv]) 1).run Tryz.prog W = .ok (.bool up) W := by kernel_rfl
attribute [local go_sem] field_st field_up

set_option maxRecDepth 100000 in
theorem upward_any (k : Int) (n : ByteArray) (o : Int) (v : ByteArray) (w : World) : Calls Tryz.prog 13 #[termV k n o v] w fun e w' => e = .returned (.bool (upS' k o)) ∧ Below w.heap.size w w' := by
  have hO := fun W => of_any k n o v W
  obtain ⟨fv, hfv, _, hform⟩ := ofA_parts k o
  rw [hfv] at hO
  have hO' := Lib.hid hO; clear hO hfv
  generalize stS k o = st at *
  generalize upS' k o = up at *
  unfold termV at *
  have hb : Hid (Below w.heap.size w (w.alloc (.cells #[.int .i64 k, .string n, .int .i64 o, .string v] 46))) := (Below.refl _ _).alloc (Nat.le_refl _) _
  rcases hform with rfl | ⟨j, rfl⟩
  all_goals
    go_enter Tryz.func13, Tryz.ntmps13
    go_wp2_with fail
    refine (hO'.out _).mono ?_
    rintro e v1 ⟨rfl, hb1⟩
    have hb2 := Lib.hid (hb.out.trans (hb1.mono hb.out.size)); clear hb1
    go_wp2_with fail
    go_ret
    exact ⟨rfl, hb2.out⟩

theorem ne_bytes {a b : ByteArray} (h : a ≠ b) : (a.toList == b.toList) = false := by
  rw [beq_eq_false_iff_ne, ByteArray.toList_eq, ByteArray.toList_eq]
  intro e
  apply h
  have := Array.toList_inj.1 e
  cases a; cases b
  simp only at this
  rw [this]
theorem getS_none {l : List Att} {n : ByteArray} (h : ∀ x ∈ l, x.1 ≠ n) : getS l n = (⟨#[]⟩, false) := by
  unfold getS
  rw [List.find?_eq_none.2 fun x hx => by simp [h x hx]]
theorem getS_some {l : List Att} {n : ByteArray} {k : Nat} {x : Att} (hk : l[k]? = some x) (h : ∀ y ∈ l.take k, y.1 ≠ n) (hx : x.1 = n) : getS l n = (x.2, true) := by
  have : l = l.take k ++ x :: l.drop (k + 1) := by
    have hk2 := (List.getElem?_eq_some_iff.1 hk)
    obtain ⟨hlt, e⟩ := hk2
    rw [← e, ← List.drop_eq_getElem_cons hlt, List.take_append_drop]
  unfold getS
  rw [this, List.find?_append, List.find?_eq_none.2 fun y hy => by simp [h y hy]]
  simp [hx]

set_option maxHeartbeats 1000000 in
theorem get_any (l : List Att) (v : Value) (n : ByteArray) (w : World) (hl : RowAt w v 2 (l.map attC)) :
    Calls Tryz.prog 34 #[v, .string n] w fun e w' => e = .returned (.tuple #[.string (getS l n).1, .bool (getS l n).2]) ∧ Below w.heap.size w w' := by
  obtain ⟨hlen, hl2⟩ := hl
  obtain ⟨R, hR⟩ : ∃ R, getS l n = R := ⟨_, rfl⟩
  rw [hR]
  have hR' := Lib.hid hR; clear hR
  rcases hl2 with ⟨rfl, h0⟩ | ⟨g, o, cap, rfl, hg, hc⟩
  · have hl0 : l = [] := List.map_eq_nil_iff.1 h0
    subst hl0
    have hF : R = (⟨#[]⟩, false) := by rw [← hR'.out]; rfl
    subst hF
    clear hR' hlen h0
    go_enter Tryz.func34, Tryz.ntmps34
    go_wp2_with fail
    go_loopw [10] (fun s10 wr => s10 = .int .i64 0 ∧ wr = w) (fun _ _ => 0)
    case atStart => exact ⟨rfl, rfl⟩
    case round =>
      obtain ⟨rfl, rfl⟩ := hrel
      go_wp2_with fail
      go_ret2
      exact ⟨rfl, Below.refl _ _⟩
  · rw [List.length_map] at hlen ⊢
    obtain ⟨m, hm⟩ : ∃ m, l.length = m := ⟨_, rfl⟩
    rw [hm] at hlen ⊢
    have hm' := Lib.hid hm; clear hm
    have hc' : Hid (∀ (k : Nat) (x : Att), l[k]? = some x → w.cell? ⟨g, o + k * 2, none⟩ = some (.string x.1) ∧ w.cell? ⟨g, o + k * 2 + 1, none⟩ = some (.string x.2)) := fun k x hx => by
      have hx2 : (l.map attC)[k]? = some (attC x) := by rw [List.getElem?_map, hx]; rfl
      exact ⟨hc k _ hx2 0 _ rfl, hc k _ hx2 1 _ rfl⟩
    clear hc
    go_enter Tryz.func34, Tryz.ntmps34
    go_wp2_with fail
    go_loopw [10] (fun s10 wr => ∃ k : Nat, s10 = .int .i64 k ∧ k ≤ m ∧ Hid (∀ x ∈ l.take k, x.1 ≠ n) ∧ Hid (Below w.heap.size w wr)) (fun s10 _ => m - (intOf s10).toNat)
    case atStart => exact ⟨0, rfl, by omega, (show ∀ x ∈ l.take 0, x.1 ≠ n from fun x hx => by simp at hx), Below.refl _ _⟩
    case round =>
      obtain ⟨k, rfl, hk, hno, hb⟩ := hrel
      by_cases hkm : k < m
      · obtain ⟨x, hx⟩ : ∃ x, l[k]? = some x := ⟨_, List.getElem?_eq_getElem (by have := hm'.out; omega)⟩
        obtain ⟨c0, c1⟩ := hc'.out k x hx
        have e : ∀ i, wr.cell? ⟨g, i, none⟩ = w.cell? ⟨g, i, none⟩ := fun i => World.cell?_of_block (hb.out.block g hg)
        rw [← e] at c0 c1
        have ik : (k : Int) < (m : Int) := by omega
        have ik0 : (0 : Int) ≤ (k : Int) := by omega
        have hx' := Lib.hid hx; clear hx e
        obtain ⟨xk, xv⟩ := x
        simp only at c0 c1
        have hbb : Hid (Below w.heap.size w (wr.alloc (.cells #[.string xk, .string xv] 50))) := hb.out.alloc hb.out.size _
        by_cases hxn : xk = n
        · have hF : R = (xv, true) := by rw [← hR'.out]; exact getS_some hx'.out hno.out hxn
          subst hF
          subst hxn
          clear hno hR'
          go_wp2_with fail
          go_ret2
          exact ⟨rfl, hbb.out⟩
        · have e1 := ne_bytes hxn
          have hno2 : Hid (∀ x ∈ l.take (k + 1), x.1 ≠ n) := fun y hy => by
            rw [List.take_add_one, hx'.out] at hy
            rcases List.mem_append.1 hy with hy | hy
            · exact hno.out y hy
            · simp at hy; subst hy; exact hxn
          clear hno
          go_wp2_with fail
          go_roundw
          case rel => exact ⟨k + 1, by go_num, by omega, hno2, hbb⟩
          case measure => simp [intOf]; omega
      · obtain rfl : k = m := by omega
        have hF : R = (⟨#[]⟩, false) := by
          rw [← hR'.out]
          refine getS_none fun x hx => hno.out x ?_
          rw [List.take_of_length_le (by have := hm'.out; omega)]
          exact hx
        subst hF
        clear hno hR'
        go_wp2_with fail
        go_ret2
        exact ⟨rfl, hb.out⟩

/-- Whether a match holds for a value. -/
def holdsS (o : Int) (p s : ByteArray) : Bool := G.matchS (bs p) (bs s) == decide (o = 1)
set_option maxHeartbeats 1000000 in
theorem holds_any (k : Int) (n : ByteArray) (o : Int) (v s : ByteArray) (w : World) (hv : v.size ≤ 9223372036854775807) (hs : s.size ≤ 9223372036854775807) :
    Calls Tryz.prog 32 #[termV k n o v, .string s] w fun e w' => e = .returned (.bool (holdsS o v s)) ∧ Below w.heap.size w w' := by
  have hM := fun W => match_any v s W hv hs
  unfold holdsS
  generalize G.matchS (bs v) (bs s) = mt at *
  have hM' := Lib.hid hM; clear hM hv hs
  unfold termV
  have hX : Hid (Blk (w.alloc (.cells #[.int .i64 k, .string n, .int .i64 o, .string v] 46)) w.heap.size 46 #[.int .i64 k, .string n, .int .i64 o, .string v]) := Blk.new _ _ _
  have hb : Hid (Below w.heap.size w (w.alloc (.cells #[.int .i64 k, .string n, .int .i64 o, .string v] 46))) := (Below.refl _ _).alloc (Nat.le_refl _) _
  obtain ⟨q, hq⟩ : ∃ q, decide (o = 1) = q := ⟨_, rfl⟩
  have hq2 : (o == 1) = q := by rw [← hq]; by_cases h : o = 1 <;> simp [h]
  rw [hq]
  go_enter Tryz.func32, Tryz.ntmps32
  go_upto_region 1 with fail
  generalize w.alloc (.cells #[.int .i64 k, .string n, .int .i64 o, .string v] 46) = w1 at *
  have c2 := hX.out.cell 2
  have c3 := hX.out.cell 3
  simp only [List.getElem?_toArray, List.getElem?_cons_zero, List.getElem?_cons_succ] at c2 c3
  have hS0 : Below w.heap.size w w1 ∧ w1.cell? ⟨w.heap.size, 2, none⟩ = some (.int .i64 o) ∧ w1.cell? ⟨w.heap.size, 3, none⟩ = some (.string v) := ⟨hb.out, c2, c3⟩
  have hS1 : Below w.heap.size w w1.drew ∧ w1.drew.cell? ⟨w.heap.size, 2, none⟩ = some (.int .i64 o) ∧ w1.drew.cell? ⟨w.heap.size, 3, none⟩ = some (.string v) := ⟨Below.drew hb.out, c2, c3⟩
  have hk : Hid (∀ y, Below w1.drew.heap.size w1.drew y → Below w.heap.size w y ∧ y.cell? ⟨w.heap.size, 2, none⟩ = some (.int .i64 o) ∧ y.cell? ⟨w.heap.size, 3, none⟩ = some (.string v)) := fun y h => by
    have e := hX.out.drew.below h hX.out.drew.lt
    exact ⟨(Below.drew hb.out).trans (h.mono (Below.drew hb.out).size), (e.cell 2).trans rfl, (e.cell 3).trans rfl⟩
  (first | (go_must (go_region_held3 (fun w' => Below w.heap.size w w' ∧ w'.cell? ⟨w.heap.size, 2, none⟩ = some (.int .i64 o) ∧ w'.cell? ⟨w.heap.size, 3, none⟩ = some (.string v))
    ((first | exact hS0 | exact hS1 | exact hk.out _ hy1))
    (first | (go_at_call 37; refine (hM'.out _).mono ?_; rintro e y1 ⟨rfl, hy1⟩) | fail))) | fail)
  have hy := Lib.hid (hk.out _ hy1).1
  clear hy1 hS0 hS1 c2 c3
  go_wp2_with fail
  go_ret
  exact ⟨rfl, hy.out⟩

end Go.Proofs.YtinjeijjfkkhbaaGreatDoor
