/-
  THE WALK of lexer.proper: can a token be written?
-/
import Derived.Test.YtofemhaepadggaaDoorLexGood
import Derived.Test.YtofemhaepadggaaDoorLexFmt
import Derived.Lib.IndexAny
import Derived.Deep.DeepMust
namespace Go.Proofs.YtofemhaepadggaaDoor
open Go.RowKit

theorem cnt_all (p : Nat → Bool) : ∀ l : List Nat, decide (L.cnt p l < l.length) = !(l.all p)
  | [] => rfl
  | c :: l => by
    have ih := cnt_all p l
    unfold L.cnt at *
    rw [List.takeWhile_cons, List.all_cons]
    cases hp : p c with
    | false => simp
    | true =>
      rw [if_pos rfl, Bool.true_and, ← ih]
      simp
theorem drop_nil_eq {a l : List Nat} (h : a.isPrefixOf l = true) (h2 : l.drop a.length = []) : l = a := by
  obtain ⟨t, rfl⟩ := List.isPrefixOf_iff_prefix.1 h
  rw [List.drop_left] at h2
  rw [h2, List.append_nil]
theorem op_good (l : List Nat) : (decide ((L.opS l).2.2 = 0) && decide ((L.opS l).2.1 = [])) = L.opsL.contains l := by
  cases hc : L.opsL.contains l with
  | true =>
    have h := List.contains_iff_mem.1 hc
    simp only [L.opsL, List.mem_cons, List.not_mem_nil, or_false] at h
    rcases h with rfl | rfl | rfl | rfl | rfl | rfl <;> decide
  | false =>
    unfold L.opS
    cases hf : L.opsL.find? (fun x => x.isPrefixOf l) with
    | none => rfl
    | some x =>
      have h1 := List.find?_some hf
      have h2 := List.mem_of_find?_eq_some hf
      simp only [decide_true, Bool.true_and]
      refine decide_eq_false fun h => ?_
      have := drop_nil_eq h1 h
      subst this
      rw [List.contains_iff_mem.2 h2] at hc
      cases hc
theorem val_good : ∀ s : List Nat, s.all L.valB = (s.all L.plainB && !(s.contains 9))
  | [] => rfl
  | c :: l => by
    have ih := val_good l
    rw [List.all_cons, List.all_cons, List.contains_cons, ih]
    unfold L.plainB L.valB
    by_cases h9 : c = 9
    · subst h9; simp
    · have e1 : ((9 : Nat) == c) = false := by rw [beq_eq_false_iff_ne]; exact fun e => h9 e.symm
      rw [decide_eq_false h9, e1, Bool.false_or, Bool.false_or]
      cases decide (32 ≤ c) <;> cases decide (c ≤ 126) <;> rfl
theorem idx_has (s : ByteArray) : decide (0 ≤ Lib.indexByte s.data.toList 9) = (bs s).contains 9 := by
  rw [← Lib.contains_iff_indexByte, bs_data]
  induction s.data.toList with
  | nil => rfl
  | cons a l ih =>
    rw [List.contains_cons, List.map_cons, List.contains_cons, ih]
    congr 1
    by_cases h : (9 : UInt8) = a
    · subst h; rfl
    · have : ¬ (9 : Nat) = a.toNat := fun e => h (UInt8.toNat_inj.1 e)
      rw [beq_eq_false_iff_ne.2 h, beq_eq_false_iff_ne.2 this]

set_option maxHeartbeats 1000000 in
theorem count_same (p : Nat → Bool) (g : Nat) (hgf : g = 50 ∨ g = 51) (hp : ∀ (c : UInt8) W, Calls Tryd.prog g #[.int .u8 c.toNat] W fun e w' => e = .returned (.bool (p c.toNat)) ∧ w' = W) (s : ByteArray) (w : World) (hs : s.size ≤ 1000000000000) :
    Calls Tryd.prog 49 #[.string s, .func (Fn.func g) #[] #[]] w fun e w' => e = .returned (.int .i64 (L.cnt p (bs s) : Nat)) ∧ w' = w := by
  have hp' := Lib.hid hp; clear hp
  rcases hgf with rfl | rfl
  all_goals
    go_enter Tryd.func49, Tryd.ntmps49
    go_wp2_with fail
    go_loopw [5] (fun s5 wr => ∃ k : Nat, s5 = .int .i64 k ∧ k ≤ s.size ∧ Hid (∀ j, j < k → ∃ c, (bs s)[j]? = some c ∧ p c = true) ∧ Hid (wr = w)) (fun s5 _ => s.size - (intOf s5).toNat)
    case atStart => exact ⟨0, rfl, by omega, fun j hj => by omega, (by first | exact rfl | exact trivial)⟩
    case round =>
      obtain ⟨k, rfl, hk, ha, hw⟩ := hrel
      obtain rfl : wr = w := hw.out
      clear hw
      by_cases hks : k < s.size
      · have hpk := get_bs s k hks
        have hC := hp'.out (s[k]'hks) wr
        cases hb0 : p (s[k]'hks).toNat with
        | true =>
          have hfin : ∀ j, j < k + 1 → ∃ c, (bs s)[j]? = some c ∧ p c = true := fun j hj => by
            rcases Nat.lt_or_ge j k with h | h
            · exact ha.out j h
            · obtain rfl : j = k := by omega
              exact ⟨_, hpk, hb0⟩
          rw [hb0] at hC
          have hC' := Lib.hid hC; clear hC
          have hfin' := Lib.hid hfin; clear hfin ha hpk hb0
          go_wp2_with fail
          refine hC'.out.mono ?_
          rintro e v1 ⟨rfl, rfl⟩
          go_wp2_with fail
          go_roundw
          case rel => exact ⟨k + 1, by go_num, by omega, hfin', (by first | exact rfl | exact trivial)⟩
          case measure => simp [intOf]; omega
        | false =>
          have hfin : L.cnt p (bs s) = k := L.cnt_stop ha.out fun c hc => by
            rw [hpk] at hc
            cases hc
            exact hb0
          rw [hb0] at hC
          have hC' := Lib.hid hC; clear hC
          have hfin' := Lib.hid hfin; clear hfin ha hpk hb0
          go_wp2_with fail
          refine hC'.out.mono ?_
          rintro e v1 ⟨rfl, rfl⟩
          go_wp2_with fail
          go_ret
          exact ⟨by rw [hfin'.out]; rfl, rfl⟩
      · obtain rfl : k = s.size := by omega
        have hfin : L.cnt p (bs s) = s.size := L.cnt_stop ha.out fun c hc => by
          rw [List.getElem?_eq_none (by rw [length_bs]; exact Nat.le_refl _)] at hc
          cases hc
        have hfin' := Lib.hid hfin; clear hfin ha
        go_wp2_with fail
        go_ret
        exact ⟨by rw [hfin'.out]; rfl, rfl⟩

theorem quiet_same {P : Program} {f : FuncId} {args : Array Value} {w : World} {n : Nat} {v : Value}
    (h : Calls P f args (w.drewN n) fun e w' => e = .returned v ∧ w' = w.drewN n) : Calls P f args (w.drewN n) fun e w'' => e = .returned v ∧ ∃ m, w'' = w.drewN m :=
  h.mono fun _ _ ⟨he, hm⟩ => ⟨he, n, hm⟩
/-- What proper asks, in its own order. -/
theorem goodP (k n o v : ByteArray) : L.good (⟨k, n, o, v⟩ : TB).tok =
    (!(decide (k.size = 0)) && !(decide (L.cnt L.letter (bs k) < k.size)) && !(decide (L.cnt L.inName (bs n) < n.size)) && !lastB v && (decide ((L.opS (bs o)).2.2 = 0) && decide ((L.opS (bs o)).2.1 = []) && (bs v).all L.plainB && !(decide (0 ≤ Lib.indexByte v.data.toList 9)))) := by
  rw [goodF]
  simp only
  have h1 := cnt_all L.letter (bs k)
  have h2 := cnt_all L.inName (bs n)
  rw [length_bs] at h1 h2
  rw [h1, h2, Bool.not_not, Bool.not_not, op_good, ops_has, val_good, idx_has]
  have h3 : decide (bs k ≠ []) = !(decide (k.size = 0)) := by
    by_cases h : k.size = 0
    · rw [decide_eq_true h, decide_eq_false]
      · rfl
      · intro hh
        exact hh (List.eq_nil_of_length_eq_zero (by rw [length_bs]; exact h))
    · rw [decide_eq_false h, decide_eq_true]
      · rfl
      · intro hh
        exact h (by rw [← length_bs, hh]; rfl)
  rw [h3]
  cases (!(decide (k.size = 0))) <;> cases (bs k).all L.letter <;> cases (bs n).all L.inName <;> cases lastB v <;> cases (opsB.any fun y => decide (y = o)) <;> cases (bs v).all L.plainB <;> cases (bs v).contains 9 <;> rfl

set_option maxRecDepth 100000 in
set_option maxHeartbeats 4000000 in
theorem proper_any (x : TB) (w : World) (hf : Fit x) :
    Calls Tryd.prog 27 #[.agg (tokC x.k x.n x.o x.v)] w fun e w' => e = .returned (.bool (L.good x.tok)) ∧ Below w.heap.size w w' := by
  obtain ⟨k0, n0, o0, v0⟩ := x
  obtain ⟨f1, f2, f3, f4⟩ := hf
  obtain ⟨G, hG⟩ : ∃ G, L.good (⟨k0, n0, o0, v0⟩ : TB).tok = G := ⟨_, rfl⟩
  rw [hG]
  rw [goodP] at hG
  simp only at f1 f2 f3 f4 ⊢
  have hcl := L.cnt_le L.letter (bs k0)
  have hcn := L.cnt_le L.inName (bs n0)
  rw [length_bs] at hcl hcn
  have hCk := fun W => count_same L.letter 50 (.inl rfl) letter_any k0 W (by omega)
  have hCn := fun W => count_same L.inName 51 (.inr rfl) inName_any n0 W (by omega)
  have hS := fun W => hass_any v0 W (by omega)
  have hO := fun W => op_any o0 W
  have hV := fun W => plain_any v0 W (by omega)
  have hT := fun W => Tryd.strings_Contains_one v0 9 W
  generalize L.cnt L.letter (bs k0) = ck at *
  generalize L.cnt L.inName (bs n0) = cn at *
  generalize lastB v0 = lb at *
  generalize L.opS (bs o0) = R at *
  generalize (bs v0).all L.plainB = pv at *
  generalize decide (0 ≤ Lib.indexByte v0.data.toList 9) = tv at *
  have hCk' := Lib.hid hCk; clear hCk
  have hCn' := Lib.hid hCn; clear hCn
  have hS' := Lib.hid hS; clear hS
  have hO' := Lib.hid hO; clear hO
  have hV' := Lib.hid hV; clear hV
  have hT' := Lib.hid hT; clear hT
  unfold tokC
  go_enter Tryd.func27, Tryd.ntmps27
  have hX : Hid (Blk (w.alloc (.cells #[.string k0, .string n0, .string o0, .string v0] 40)) w.heap.size 40 #[.string k0, .string n0, .string o0, .string v0]) := Blk.new _ _ _
  have hb : Hid (Below w.heap.size w (w.alloc (.cells #[.string k0, .string n0, .string o0, .string v0] 40))) := (Below.refl _ _).alloc (Nat.le_refl _) _
  have hsz : w.heap.size < (w.alloc (.cells #[.string k0, .string n0, .string o0, .string v0] 40)).heap.size := by show _ < (Array.push _ _).size; rw [Array.size_push]; omega
  go_wp2_with fail
  generalize w.alloc (.cells #[.string k0, .string n0, .string o0, .string v0] 40) = w1 at *
  have c0 := hX.out.cell 0
  have c1 := hX.out.cell 1
  have c2 := hX.out.cell 2
  have c3 := hX.out.cell 3
  simp only [List.getElem?_toArray, List.getElem?_cons_zero, List.getElem?_cons_succ] at c0 c1 c2 c3
  have hkeep : ∀ W y : World, Below w1.heap.size w1 W → Below W.heap.size W y → Below w1.heap.size w1 y ∧ y.cell? ⟨w.heap.size, 0, none⟩ = some (.string k0) ∧ y.cell? ⟨w.heap.size, 1, none⟩ = some (.string n0) ∧ y.cell? ⟨w.heap.size, 2, none⟩ = some (.string o0) ∧ y.cell? ⟨w.heap.size, 3, none⟩ = some (.string v0) := fun W y h1 h2 => by
    have h3 := h1.trans (h2.mono h1.size)
    have e : ∀ i, y.cell? ⟨w.heap.size, i, none⟩ = w1.cell? ⟨w.heap.size, i, none⟩ := fun i => World.cell?_of_block (h3.block _ hsz)
    exact ⟨h3, (e _).trans c0, (e _).trans c1, (e _).trans c2, (e _).trans c3⟩
  have hlift : Hid (∀ y, Below w1.heap.size w1 y → Below w.heap.size w y) := fun y h => hb.out.trans (h.mono (Nat.le_of_lt hsz))
  have hkeep' := Lib.hid hkeep; clear hkeep
  have hb0 : Below w1.heap.size w1 w1 := Below.refl _ _
  by_cases hk0 : k0.size = 0
  · have e1 : (k0.toList == []) = true := list_emp hk0
    have e2 : k0.toList.isEmpty = true := isEmpty_zero hk0
    have hG2 : G = false := by rw [← hG, decide_eq_true hk0]; rfl
    have hG2' := Lib.hid hG2; clear hG2 hG
    go_quiet (fail)
    go_wp2_with fail
    go_ret
    exact ⟨by rw [hG2'.out]; rfl, hlift.out _ (below_drawN hb0 _)⟩
  · have e1 : (k0.toList == []) = false := list_ne k0 (by omega)
    have e2 : k0.toList.isEmpty = false := by
      have h := e1
      cases hl : k0.toList with
      | nil => rw [hl] at h; cases h
      | cons a l => rfl
    rw [decide_eq_false hk0] at hG
    by_cases hck : ck < k0.size
    · have i1 : decide ((ck : Int) < (k0.size : Int)) = true := decide_eq_true (by omega)
      have i1p : (ck : Int) < (k0.size : Int) := by omega
      have hG2 : G = false := by rw [← hG, decide_eq_true hck]; rfl
      have hG2' := Lib.hid hG2; clear hG2 hG hk0 hcl hcn hck
      go_quiet ((first | (go_at_call 49; (with_reducible show Calls _ _ #[.string k0, _] _ _); exact quiet_same (hCk'.out _)) | (go_at_call 49; (with_reducible show Calls _ _ #[.string n0, _] _ _); exact quiet_same (hCn'.out _)) | (go_at_call 22; exact quiet_same (hS'.out _)) | fail))
      go_wp2_with fail
      go_ret
      exact ⟨by rw [hG2'.out]; rfl, hlift.out _ (below_drawN hb0 _)⟩
    · have i1 : decide ((ck : Int) < (k0.size : Int)) = false := decide_eq_false (by omega)
      have i1n : ¬ ((ck : Int) < (k0.size : Int)) := by omega
      rw [decide_eq_false hck] at hG
      by_cases hcm : cn < n0.size
      · have i2 : decide ((cn : Int) < (n0.size : Int)) = true := decide_eq_true (by omega)
        have i2p : (cn : Int) < (n0.size : Int) := by omega
        have hG2 : G = false := by rw [← hG, decide_eq_true hcm]; rfl
        have hG2' := Lib.hid hG2; clear hG2 hG hk0 hcl hcn hck hcm
        go_quiet ((first | (go_at_call 49; (with_reducible show Calls _ _ #[.string k0, _] _ _); exact quiet_same (hCk'.out _)) | (go_at_call 49; (with_reducible show Calls _ _ #[.string n0, _] _ _); exact quiet_same (hCn'.out _)) | (go_at_call 22; exact quiet_same (hS'.out _)) | fail))
        go_wp2_with fail
        go_ret
        exact ⟨by rw [hG2'.out]; rfl, hlift.out _ (below_drawN hb0 _)⟩
      · have i2 : decide ((cn : Int) < (n0.size : Int)) = false := decide_eq_false (by omega)
        have i2n : ¬ ((cn : Int) < (n0.size : Int)) := by omega
        rw [decide_eq_false hcm] at hG
        cases lb with
        | true =>
          have hG2 : G = false := by rw [← hG]; rfl
          have hG2' := Lib.hid hG2; clear hG2 hG hk0 hcl hcn hck hcm
          go_quiet ((first | (go_at_call 49; (with_reducible show Calls _ _ #[.string k0, _] _ _); exact quiet_same (hCk'.out _)) | (go_at_call 49; (with_reducible show Calls _ _ #[.string n0, _] _ _); exact quiet_same (hCn'.out _)) | (go_at_call 22; exact quiet_same (hS'.out _)) | fail))
          go_wp2_with fail
          go_ret
          exact ⟨by rw [hG2'.out]; rfl, hlift.out _ (below_drawN hb0 _)⟩
        | false =>
          have hG2' := Lib.hid hG; clear hG hk0 hcl hcn hck hcm
          go_quiet ((first | (go_at_call 49; (with_reducible show Calls _ _ #[.string k0, _] _ _); exact quiet_same (hCk'.out _)) | (go_at_call 49; (with_reducible show Calls _ _ #[.string n0, _] _ _); exact quiet_same (hCn'.out _)) | (go_at_call 22; exact quiet_same (hS'.out _)) | fail))
          have hy := hkeep'.out w1 (w1.drewN nq) hb0 (below_drawN (Below.refl _ _) _)
          clear hb0 c0 c1 c2 c3 hX e1 e2 i1 i2 i1n i2n
          generalize w1.drewN nq = w2 at *
          obtain ⟨hb2, c0, c1, c2, c3⟩ := hy
          have hb2' := Lib.hid hb2; clear hb2
          obtain ⟨r1, r2, r3⟩ := R
          go_wp2_with fail
          refine (hO'.out _).mono ?_
          rintro e z1 ⟨⟨a, b, rfl, ha, hbb⟩, hz1⟩
          simp only at ha hbb hG2' ⊢
          have hz := hkeep'.out _ _ hb2'.out hz1
          clear c0 c1 c2 c3
          obtain ⟨hb3, c0, c1, c2, c3⟩ := hz
          have hb3' := Lib.hid hb3; clear hb3 hz1 ha
          by_cases h3 : r3 = 0
          · subst h3
            by_cases hb0 : b.size = 0
            · have e1 : (b.toList == []) = true := list_emp hb0
              have e2 : b.toList.isEmpty = true := isEmpty_zero hb0
              have hr2 : r2 = [] := by rw [← hbb]; exact List.eq_nil_of_length_eq_zero (by rw [length_bs]; exact hb0)
              have hG3 : (pv && !tv) = G := by
                have h := hG2'.out
                rw [hr2] at h
                rw [← h]; rfl
              have hG3' := Lib.hid hG3; clear hG3 hG2' hr2 hbb
              cases pv with
              | false =>
                go_wp2_with fail
                refine (hV'.out _).mono ?_
                rintro e z2 ⟨rfl, hz2⟩
                have hz3 := Lib.hid (hkeep'.out _ _ hb3'.out hz2).1; clear hz2
                go_wp2_with fail
                go_ret
                exact ⟨by rw [← hG3'.out]; rfl, hlift.out _ hz3.out⟩
              | true =>
                go_wp2_with fail
                refine (hV'.out _).mono ?_
                rintro e z2 ⟨rfl, hz2⟩
                have hz := hkeep'.out _ _ hb3'.out hz2
                clear c0 c1 c2 c3
                obtain ⟨hb4, c0, c1, c2, c3⟩ := hz
                have hb4' := Lib.hid hb4; clear hb4 hz2
                go_wp2_with fail
                refine (hT'.out _).mono ?_
                rintro e z3 ⟨rfl, rfl⟩
                go_wp2_with fail
                go_ret
                exact ⟨by rw [← hG3'.out]; cases tv <;> rfl, hlift.out _ hb4'.out⟩
            · have e1 : (b.toList == []) = false := list_ne b (by omega)
              have e2 : b.toList.isEmpty = false := by
                have h := e1
                cases hl : b.toList with
                | nil => rw [hl] at h; cases h
                | cons a l => rfl
              have hr2 : ¬ r2 = [] := by
                intro h
                rw [h] at hbb
                exact hb0 (by rw [← length_bs, hbb]; rfl)
              have hG3 : G = false := by
                rw [← hG2'.out, decide_eq_false hr2]; simp
              have hG3' := Lib.hid hG3; clear hG3 hG2' hr2 hbb
              go_wp2_with fail
              go_ret
              exact ⟨by rw [hG3'.out]; rfl, hlift.out _ hb3'.out⟩
          · have i3 : (r3 == 0) = false := beq_eq_false_iff_ne.2 h3
            have hG3 : G = false := by
              rw [← hG2'.out, decide_eq_false h3]; simp
            have hG3' := Lib.hid hG3; clear hG3 hG2' hbb h3
            go_wp2_with fail
            go_ret
            exact ⟨by rw [hG3'.out]; rfl, hlift.out _ hb3'.out⟩

end Go.Proofs.YtofemhaepadggaaDoor
