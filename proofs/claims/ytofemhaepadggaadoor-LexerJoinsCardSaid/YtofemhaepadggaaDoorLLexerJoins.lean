/-
  The law LexerJoins, with the tied card of its row: proved for all inputs, without conditions.
-/
import Derived.Test.YtofemhaepadggaaDoorRows
import Derived.Test.YtofemhaepadggaaDoorCards
import Derived.Test.YtofemhaepadggaaDoorTie
import Derived.Test.YtofemhaepadggaaDoorDoor
import Derived.Test.YtofemhaepadggaaDoorShut
import Derived.Test.YtofemhaepadggaaDoorLexKnown
import Derived.Test.YtofemhaepadggaaDoorLexRefLines
import Derived.Test.YtofemhaepadggaaDoorLexJoinP
import Derived.WalkKit
import Derived.ProofKit
import Derived.OpenShut
import Derived.ShutString
import Derived.LaidMore
import Derived.Lay
import Derived.SevenTiedAt
import Derived.Stop.Joined
import Derived.ChangeOld
import Derived.Below
import Derived.Laws.AppendOwnNone
namespace Go.Proofs.YtofemhaepadggaaDoor.lexerJoins
open Go.ChangeShapes Go.WideShapes Go.ChangeAt Go.RowKit
open Go.ChangeMaps (open_string shut_string)
open Go.Proofs.YtofemhaepadggaaDoor
set_option linter.unusedVariables false      -- a walk need not use every 'w<i>' (that an integer argument fits its kind)

theorem own : ownKnob Tryd.prog.godebug = none := by kernel_rfl

/-! ### STEP 1: THE WALK: the Go text returns true. 'Grown w w'': the world has at most new blocks (Derived/RowKit3.lean). Part the cases AHEAD of 'go_enter' where a test parts the walk; take each callee by a contract of your own. -/
open Go.Proofs.YtofemhaepadggaaDoor in
theorem lnGo_len (bl : ByteArray → Bool) : ∀ (f n : Nat) (l : List ByteArray), (lnGo bl f n l).length ≤ f ∧ ∀ x ∈ lnGo bl f n l, x.1 ≤ n + l.length + 1
  | 0, n, l => ⟨Nat.le_refl _, fun x h => by cases h⟩
  | f + 1, n, [] => ⟨Nat.zero_le _, fun x h => by cases h⟩
  | f + 1, n, x :: l => by
    have ih := lnGo_len bl f (n + (grp (x :: l)).2) ((x :: l).drop (grp (x :: l)).2)
    have hle := grp_le (x :: l)
    show ((if bl (grp (x :: l)).1 then [] else [(n + 1, (grp (x :: l)).1)]) ++ lnGo bl f (n + (grp (x :: l)).2) ((x :: l).drop (grp (x :: l)).2)).length ≤ f + 1 ∧ ∀ y ∈ ((if bl (grp (x :: l)).1 then [] else [(n + 1, (grp (x :: l)).1)]) ++ lnGo bl f (n + (grp (x :: l)).2) ((x :: l).drop (grp (x :: l)).2)), y.1 ≤ n + (x :: l).length + 1
    rw [List.length_append]
    refine ⟨by split <;> simp <;> omega, fun y hy => ?_⟩
    rcases List.mem_append.1 hy with hy | hy
    · split at hy
      · cases hy
      · simp at hy
        subst hy
        simp
    · have := ih.2 y hy
      rw [List.length_drop] at this
      omega
open Go.Proofs.YtofemhaepadggaaDoor in
theorem linesS_len (s : ByteArray) : (linesS s).length ≤ s.size + 2 ∧ ∀ x ∈ linesS s, x.1 ≤ s.size + 2 := by
  have h1 := lnGo_len blankB ((phys s).length + 1) 0 (phys s)
  have h2 := (pieces_len s).2
  have h3 : (phys s).length ≤ (pieces s).length := by
    unfold phys
    split
    · rw [List.length_dropLast]; omega
    · exact Nat.le_refl _
  unfold linesS
  exact ⟨by omega, fun x hx => by have := h1.2 x hx; omega⟩

open Go.Proofs.YtofemhaepadggaaDoor in
theorem one_flatN : ∀ (l : List Ln), ∀ v ∈ flatN l, v.oneCell' = true
  | [], v, h => by cases h
  | a :: l, v, h => by
    rcases List.mem_cons.1 h with h | h
    · subst h; rfl
    · rcases List.mem_cons.1 h with h | h
      · subst h; rfl
      · exact one_flatN l v h
/-- The first k lines with numbers moved on. -/
def moved (n : Nat) (k : Nat) (l : List Go.Proofs.YtofemhaepadggaaDoor.Ln) : List Go.Proofs.YtofemhaepadggaaDoor.Ln := (l.take k).map (fun x => (x.1 + n, x.2)) ++ l.drop k
open Go.Proofs.YtofemhaepadggaaDoor in
theorem moved_len (n k : Nat) (l : List Ln) : (moved n k l).length = l.length := by
  unfold moved
  rw [List.length_append, List.length_map, List.length_take, List.length_drop]
  omega
open Go.Proofs.YtofemhaepadggaaDoor in
theorem moved_get {n k : Nat} {l : List Ln} {x : Ln} (h : l[k]? = some x) : (moved n k l)[k]? = some x := by
  unfold moved
  have hk := (List.getElem?_eq_some_iff.1 h).1
  rw [List.getElem?_append_right (by simp; omega)]
  simp [Nat.min_eq_left (Nat.le_of_lt hk), h]
open Go.Proofs.YtofemhaepadggaaDoor in
theorem flatN_set : ∀ (l : List Ln) (k : Nat) (x : Ln) (a : Nat), l[k]? = some x → (flatN l).set (k * 2) (.int .i64 (a : Int)) = flatN (l.set k (a, x.2))
  | [], k, x, a, h => by cases h
  | y :: l, 0, x, a, h => by
    simp at h
    subst h
    rfl
  | y :: l, k + 1, x, a, h => by
    rw [show (k + 1) * 2 = k * 2 + 1 + 1 from by omega]
    show _ :: _ :: (flatN l).set (k * 2) _ = _ :: _ :: flatN (l.set k _)
    rw [flatN_set l k x a (by simpa using h)]
open Go.Proofs.YtofemhaepadggaaDoor in
theorem moved_set {n k : Nat} {l : List Ln} {x : Ln} (h : l[k]? = some x) : (moved n k l).set k (x.1 + n, x.2) = moved n (k + 1) l := by
  have hk := (List.getElem?_eq_some_iff.1 h).1
  have he := (List.getElem?_eq_some_iff.1 h).2
  unfold moved
  rw [List.set_append, if_neg (by simp; omega), List.take_add_one, h, List.map_append, List.append_assoc]
  congr 1
  simp only [List.length_map, List.length_take, Nat.min_eq_left (Nat.le_of_lt hk), Nat.sub_self, Option.toList_some, List.map_cons, List.map_nil]
  rw [List.drop_eq_getElem_cons hk]
  rfl

open Go.Proofs.YtofemhaepadggaaDoor in
set_option maxRecDepth 100000 in
set_option maxHeartbeats 4000000 in
theorem walk (a0 a1 : ByteArray) (w0 : a0.size ≤ maxLen) (w1 : a1.size ≤ maxLen) (w : World) (m : Int) (hm : w.cell? ⟨0, 0, none⟩ = some (.int .i64 m)) :
    Calls Tryd.prog 6 #[.string a0, .string a1] w fun e w' => e = .returned (.bool true) ∧ Below w.heap.size w w' := by
  obtain ⟨i0, hi0, hz0, hz1, hz2⟩ := info_parts info_line
  have h0lt : 0 < w.heap.size := World.block_lt_of_cell? w _ hm
  have hK' := Lib.hid (fun W hW => lknown_any W m hW)
  have hm' := Lib.hid hm; clear hm
  by_cases s0 : a0.size ≤ 500
  · have i1 : ¬ (500 : Int) < (a0.size : Int) := by omega
    by_cases s1 : a1.size ≤ 500
    · have i2 : ¬ (500 : Int) < (a1.size : Int) := by omega
      have hS := hass_any a0 w (by omega)
      cases hl : lastB a0 with
      | true =>
        rw [hl] at hS
        have hS' := Lib.hid hS; clear hS
        clear hl
        go_enter Tryd.func6, Tryd.ntmps6
        go_wp2_with fail
        refine hS'.out.mono ?_
        rintro e v0 ⟨rfl, rfl⟩
        go_wp2_with fail
        refine (hK'.out _ hm'.out).mono ?_
        rintro e v1 ⟨rfl, hb1⟩
        have k1' := Lib.hid hb1; clear hb1
        go_wp2_with fail
        go_ret
        exact ⟨rfl, k1'.out⟩
      | false =>
        have hz : lfB.size = 1 := rfl
        have hA := fun W hW => lines_any (a0 ++ lfB) m W (by rw [ByteArray.size_append]; omega) hW
        have hB := fun W hW => lines_any a1 m W (by omega) hW
        have hC := fun W hW => lines_any (a0 ++ lfB ++ a1) m W (by rw [ByteArray.size_append, ByteArray.size_append]; omega) hW
        rw [lines_app a0 a1 hl] at hC
        have lA := linesS_len (a0 ++ lfB)
        have lB := linesS_len a1
        rw [ByteArray.size_append, hz] at lA
        have hN := fun W hW => Tryd.strings_Count_any a0 lfB m W (by omega) hW (by decide)
        have hcn := pieces_count a0
        have hpl := (pieces_len a0).2
        generalize linesS (a0 ++ lfB) = la at *
        generalize linesS a1 = lb at *
        obtain ⟨n, hn⟩ : ∃ n, (pieces a0).length = n := ⟨_, rfl⟩
        rw [hn] at hC hcn hpl
        have hcn2 : Lib.countB a0 lfB + 1 = n := hcn.symm
        generalize Lib.countB a0 lfB = cn at *
        rw [hl] at hS
        have lA' := Lib.hid lA.1
        have lB' := Lib.hid lB.1
        have lB2 := Lib.hid lB.2
        have hn500 : n ≤ 501 := by omega
        have icn : ((cn : Int) + 1) = (n : Int) := by omega
        clear lA lB hl hcn hn hpl hz
        have hA' := Lib.hid hA; clear hA
        have hB' := Lib.hid hB; clear hB
        have hC' := Lib.hid hC; clear hC
        have hN' := Lib.hid hN; clear hN
        have hS' := Lib.hid hS; clear hS
        have hi0' := Lib.hid hi0; clear hi0
        have hz0' := Lib.hid hz0; clear hz0
        have hz1' := Lib.hid hz1; clear hz1
        have hz2' := Lib.hid hz2; clear hz2
        have icn' := Lib.hid icn
        clear icn hcn2
        have hcn5 : cn ≤ 500 := by have := icn'.out; omega
        go_enter Tryd.func6, Tryd.ntmps6
        go_wp2_with fail
        refine hS'.out.mono ?_
        rintro e v0 ⟨rfl, rfl⟩
        go_wp2_with fail
        refine (hA'.out _ hm'.out).mono ?_
        rintro e v1 ⟨⟨va, rfl, ha⟩, hb1⟩
        have k1 : Below v0.heap.size v0 v1 := hb1
        have m1 := Lib.hid ((World.cell?_of_block (k1.block 0 h0lt)).trans hm'.out)
        have ha1 := Lib.hid ha; clear ha
        have halt := Lib.hid (World.ownsRow.lt ha1.out)
        have hsz01 : Hid (v0.heap.size ≤ v1.heap.size) := k1.size
        have k1' := Lib.hid k1; clear k1 hb1 hA'
        go_wp2_with fail
        refine (hB'.out _ m1.out).mono ?_
        rintro e v2 ⟨⟨vb, rfl, hb⟩, hb2⟩
        have k2 := Lib.hid (k1'.out.trans (hb2.mono k1'.out.size))
        have m2 := Lib.hid ((World.cell?_of_block (k2.out.block 0 h0lt)).trans hm'.out)
        have ha2 : Hid (Lns v2 (v0.heap.size + 1) va la) := own_below ha1.out hb2
        have hsz12 : Hid (v1.heap.size ≤ v2.heap.size) := hb2.size
        have hbv := Lib.hid hb; clear hb
        have hblt := Lib.hid (World.ownsRow.lt hbv.out)
        clear hb2 ha1 k1' m1 hB'
        go_wp2_with fail
        refine (hC'.out _ m2.out).mono ?_
        rintro e v3 ⟨⟨vc, rfl, hc⟩, hb3⟩
        have k3 := Lib.hid (k2.out.trans (hb3.mono k2.out.size))
        have m3 := Lib.hid ((World.cell?_of_block (k3.out.block 0 h0lt)).trans hm'.out)
        have ha3 : Hid (Lns v3 (v0.heap.size + 1) va la) := own_below ha2.out hb3
        have hbv3 : Hid (Lns v3 (v1.heap.size + 1) vb lb) := own_below hbv.out hb3
        have hsz23 : Hid (v2.heap.size ≤ v3.heap.size) := hb3.size
        have hcv := Lib.hid hc; clear hc
        have hclt := Lib.hid (World.ownsRow.lt hcv.out)
        clear hb3 ha2 hbv k2 m2 hC'
        go_wp2_with fail
        refine (hN'.out _ m3.out).mono ?_
        rintro e v4 ⟨rfl, rfl⟩
        go_wp2_with fail
        rw [icn'.out]
        clear hN'
        have fin : ∀ (W : World) (vy : Value) (By : Nat), Below v0.heap.size v0 W → Lns W By vy (la ++ lb.map fun x => (x.1 + n, x.2)) → Lns W (v2.heap.size + 1) vc (la ++ lb.map fun x => (x.1 + n, x.2)) →
            Calls Tryd.prog 19 #[vy, vc] W fun e w' => e = .returned (.bool true) ∧ Below v0.heap.size v0 w' ∧ w'.cell? ⟨0, 0, none⟩ = some (.int .i64 m) := fun W vy By h1 h2 h3 => by
          refine (sameL_any _ _ _ _ _ _ W h2 h3 (by have := lA'.out; have := lB'.out; simp; omega)).mono ?_
          rintro e w' ⟨rfl, hb⟩
          have hh := h1.trans (hb.mono h1.size)
          rw [decide_eq_true (rfl : la ++ (lb.map fun x => (x.1 + n, x.2)) = la ++ (lb.map fun x => (x.1 + n, x.2)))]
          exact ⟨rfl, hh, (World.cell?_of_block (hh.block 0 h0lt)).trans hm'.out⟩
        have fin' := Lib.hid fin; clear fin
        rcases hbv3.out.2 with ⟨rfl, h0⟩ | ⟨g, cap, cur, rfl, hbs, hg, rest⟩
        · have hlb : lb = [] := List.eq_nil_of_length_eq_zero h0
          subst hlb
          have hya : Hid (Lns v4 (v0.heap.size + 1) va (la ++ ([] : List Ln).map fun x => (x.1 + n, x.2))) := by rw [List.map_nil, List.append_nil]; exact ha3.out
          clear hbv3 h0 hblt
          go_loopw [9] (fun s9 wr => s9 = .int .i64 0 ∧ wr = v4) (fun _ _ => 0)
          case atStart => exact ⟨rfl, rfl⟩
          case round =>
            obtain ⟨rfl, rfl⟩ := hrel
            go_wp2_with (at_builtin; refine wpList_append_own_none rfl (.tmp 51) (.tmp 52) 44 rfl (v0.heap.size + 1) 50 i0 2 Tryd.underlying44 hi0'.out va la.length (flatN la) rfl ha3.out rfl ?_)
            refine (fin'.out _ _ _ k3.out hya.out hcv.out).mono ?_
            rintro e v5 ⟨rfl, hb5, m5⟩
            have k5 := Lib.hid hb5
            have m5' := Lib.hid m5; clear m5 hb5 m3 fin' ha3
            go_wp2_with fail
            refine (hK'.out _ m5'.out).mono ?_
            rintro e v6 ⟨rfl, hb6⟩
            have k6 := Lib.hid (k5.out.trans (hb6.mono k5.out.size)); clear hb6
            go_wp2_with fail
            go_ret
            exact ⟨rfl, k6.out⟩
        · have hgb := hblt.out g rfl
          have hl0 : (moved n 0 lb) = lb := by unfold moved; simp
          have hlb5 := lB'.out
          have hla5 := lA'.out
          clear hbs hg rest hblt
          go_loopw [9] (fun s9 wr => ∃ k : Nat, s9 = .int .i64 k ∧ k ≤ lb.length ∧ Hid (Lns wr (v1.heap.size + 1) (.slice (some ⟨g, 0, none⟩) lb.length cap) (moved n k lb)) ∧ Hid (Only (fun j => j = g) v4 wr)) (fun s9 _ => lb.length - (intOf s9).toNat)
          case atStart => exact ⟨0, rfl, by omega, by rw [hl0]; exact hbv3, Only.refl _ _⟩
          case round =>
            obtain ⟨k, rfl, hk, hr, ho⟩ := hrel
            by_cases hkl : k < lb.length
            · have ik : (k : Int) < (lb.length : Int) := by omega
              have ik0 : (0 : Int) ≤ (k : Int) := by omega
              obtain ⟨x, hx⟩ : ∃ x, lb[k]? = some x := ⟨_, List.getElem?_eq_getElem hkl⟩
              have hxn := lB2.out x (List.mem_of_getElem? hx)
              have hr1 : wr.ownsRow (v1.heap.size + 1) 50 2 (.slice (some ⟨g, 0, none⟩) lb.length cap) lb.length (flatN (moved n k lb)) := by
                have := hr.out
                unfold Lns at this
                rwa [moved_len] at this
              have hf := (flatN_get (moved n k lb) k x (moved_get hx)).1
              have c0 : wr.cell? ⟨g, k * 2, none⟩ = some (.int .i64 (x.1 : Int)) := (World.ownsRow.cellAt hr1 (k * 2) (by omega)).trans hf
              have f0 := World.ownsRow.frozenAt hr1 (k * 2)
              have hst : ∀ u, Lns (wr.setCell ⟨g, k * 2, none⟩ (.int .i64 u)) (v1.heap.size + 1) (.slice (some ⟨g, 0, none⟩) lb.length cap) (moved n (k + 1) lb) ∨ u ≠ ((x.1 + n : Nat) : Int) := fun u => by
                by_cases hu : u = ((x.1 + n : Nat) : Int)
                · left
                  subst hu
                  have h1 := World.ownsRow.stored hr1 (k * 2) (.int .i64 ((x.1 + n : Nat) : Int))
                  rw [flatN_set _ k x _ (moved_get hx), moved_set hx] at h1
                  unfold Lns
                  rw [moved_len]
                  exact h1.1
                · exact .inr hu
              have hst2 : Hid (Lns (wr.setCell ⟨g, k * 2, none⟩ (.int .i64 ((x.1 : Int) + n))) (v1.heap.size + 1) (.slice (some ⟨g, 0, none⟩) lb.length cap) (moved n (k + 1) lb)) := (hst _).resolve_right (by simp)
              have ho2 : Hid (Only (fun j => j = g) v4 (wr.setCell ⟨g, k * 2, none⟩ (.int .i64 ((x.1 : Int) + n)))) := ho.out.setCell (.inl rfl) _
              clear hst hr1 hr ho hf hx
              go_wp2_with fail
              go_roundw
              case rel => exact ⟨k + 1, by go_num, by omega, hst2, ho2⟩
              case measure => simp [intOf]; omega
            · obtain rfl : k = lb.length := by omega
              have hown : wr.ownsRow (v1.heap.size + 1) 50 2 (.slice (some ⟨g, 0, none⟩) lb.length cap) lb.length (flatN (lb.map fun x => (x.1 + n, x.2))) := by
                have := hr.out
                unfold Lns at this
                rw [moved_len] at this
                have e : moved n lb.length lb = lb.map fun x => (x.1 + n, x.2) := by unfold moved; simp
                rwa [e] at this
              have hap : Hid (Lns wr (v0.heap.size + 1) va la) := own_only ha3.out ho.out (fun j hj e => by have e : j = g := e; have := halt.out j hj; omega)
              have hcp : Hid (Lns wr (v2.heap.size + 1) vc (la ++ lb.map fun x => (x.1 + n, x.2))) := own_only hcv.out ho.out (fun j hj e => by have e : j = g := e; have := hclt.out j hj; omega)
              have hbw : Hid (Below v0.heap.size v0 wr) := k3.out.trans (ho.out.below (fun j e => by have e : j = g := e; have := hsz01.out; omega) k3.out.size)
              have hws : v4.heap.size ≤ wr.heap.size := ho.out.size
              have h04 : v0.heap.size + 1 ≤ wr.heap.size := by have := hsz01.out; have := hsz12.out; have := hsz23.out; omega
              clear hr ho ha3 hcv k3 hbv3
              go_wp2_with (at_builtin; refine wpList_append_own _ rfl (.tmp 51) (.tmp 52) 44 rfl (v0.heap.size + 1) 50 i0 (.agg #[.int .i64 0, .string ⟨#[]⟩]) 2 24 Tryd.underlying44 hi0'.out hz0'.out hz1'.out hz2'.out rfl (by decide) va la.length (flatN la) rfl hap.out ⟨g, 0, none⟩ lb.length cap (flatN (lb.map fun x => (x.1 + n, x.2))) rfl (by rw [length_flatN, List.length_map]) (World.ownsRow.cells hown rfl) (one_flatN _) (by simp only [maxLen]; omega) (by omega) h04 ?_; intro vy W1 hownY hgrow _)
              have hy : Hid (Lns W1 (v0.heap.size + 1) vy (la ++ lb.map fun x => (x.1 + n, x.2))) := by
                unfold Hid Lns
                rw [flatN_app, List.length_append, List.length_map]
                exact hownY
              have hbw1 := Lib.hid (hbw.out.grown hgrow hbw.out.size (fun j e => by have := (halt.out j e).1; omega))
              have hcw : Hid (Lns W1 (v2.heap.size + 1) vc (la ++ lb.map fun x => (x.1 + n, x.2))) := World.ownsRow.kept hcp.out hgrow (by
                cases hp : vc.ownBlock with
                | none => exact .inl rfl
                | some j =>
                  refine .inr fun e => ?_
                  have h1 := (hclt.out j hp).1
                  have h2 := (halt.out j e.symm).2
                  have := hsz12.out
                  omega)
              clear hownY hgrow hown hap hcp hbw
              refine (fin'.out _ _ _ hbw1.out hy.out hcw.out).mono ?_
              rintro e v5 ⟨rfl, hb5, m5⟩
              have k5 := Lib.hid hb5
              have m5' := Lib.hid m5; clear m5 hb5 fin'
              go_wp2_with fail
              refine (hK'.out _ m5'.out).mono ?_
              rintro e v6 ⟨rfl, hb6⟩
              have k6 := Lib.hid (k5.out.trans (hb6.mono k5.out.size)); clear hb6
              go_wp2_with fail
              go_ret
              exact ⟨rfl, k6.out⟩
    · have i2 : (500 : Int) < (a1.size : Int) := by omega
      go_enter Tryd.func6, Tryd.ntmps6
      go_wp2_with fail
      refine (hK'.out _ hm'.out).mono ?_
      rintro e v1 ⟨rfl, hb1⟩
      have k1' := Lib.hid hb1; clear hb1
      go_wp2_with fail
      go_ret
      exact ⟨rfl, k1'.out⟩
  · have i1 : (500 : Int) < (a0.size : Int) := by omega
    go_enter Tryd.func6, Tryd.ntmps6
    go_wp2_with fail
    refine (hK'.out _ hm'.out).mono ?_
    rintro e v1 ⟨rfl, hb1⟩
    have k1' := Lib.hid hb1; clear hb1
    go_wp2_with fail
    go_ret
    exact ⟨rfl, k1'.out⟩

/-! ### THE ROW's STEP: WRITTEN OUT: LEAVE IT -/
set_option maxRecDepth 100000 in
theorem lifted (os : Os) (started : os.Started) (H : Type) (enc : TypeId × Value → H) :
    ReturnsInHanded {} Tryd.checked os 6 .any (fun w args => (Rows.lexerJoinsSpec.pre enc Tryd.prog Tryd.f6 Rows.lexerJoinsRow.domain false w args ∧ laidMetH Tryd.prog Rows.lexerJoinsRow.laid w) ∧ sizedMet enc Tryd.prog Tryd.f6 (OpenSpec.ofChange Rows.lexerJoinsSpec) false w args) (Rows.lexerJoinsSpec.post enc Tryd.prog Tryd.f6 false true false false) := by
  refine handed_and_shaped (C := Tryd.checked) (X := fun w _ => laidMetH Tryd.prog Rows.lexerJoinsRow.laid w) (fun _ _ _ hh h => h.of_heap hh) own started (by kernel_rfl) Tryd.func6
    (ChangeSpec.witness_shaped (enc := enc) (C := Tryd.checked) (os := os) (X := fun w _ => laidMetH Tryd.prog Rows.lexerJoinsRow.laid w) false (World.laidAll Tryd.prog os Rows.lexerJoinsRow.laid) #[.string ByteArray.empty, .string ByteArray.empty] 8 (World.laidAll_os _ _ _)
      (World.shaped_of_ZipB (by kernel_rfl) (by kernel_rfl)) (by kernel_rfl) (by kernel_rfl) (by kernel_rfl)
      (by rw [MakeChecks.laidMetH_plain _ _ _ (by kernel_rfl)]; exact laidMet_laidAll _ (by kernel_rfl) (by kernel_rfl))) ?_
  intro W base args ds gs before hval0 hW hcnd hsh _
  have hval : ∀ (j : Nat) t v, Tryd.f6.params[j]? = some t → args[j]? = some v → Value.okWide Tryd.prog W .any base t v := hval0
  have hW' := hW
  obtain ⟨p, q, hA0, hV, rfl, hfz, hnd⟩ := hW
  have hA : DataW.TrodAll enc Tryd.prog W 0 (fun _ => true) true Tryd.f6.params.toList args.toList ds p := hA0
  rw [Tryd.params6] at hA hval
  obtain ⟨v0, vs0, d0, ds0, p0, q0, hargs, rfl, rfl, h0, r0⟩ := trodAll_cons hA
  obtain ⟨v1, vs1, d1, ds1, p1, q1, rfl, rfl, rfl, h1, r1⟩ := trodAll_cons r0
  obtain ⟨rfl, rfl, rfl⟩ := trodAll_nil r1
  obtain rfl : args = #[v0, v1] := by cases args; simp_all
  obtain ⟨rfl, rfl⟩ := trodVars_none hV
  obtain ⟨a0, rfl, rfl, rfl, w0⟩ := open_string Tryd.underlying9 (hval 0 9 v0 rfl rfl) h0
  obtain ⟨a1, rfl, rfl, rfl, w1⟩ := open_string Tryd.underlying9 (hval 1 9 v1 rfl rfl) h1
  clear hA0 hval0
  simp only [List.append_nil] at hW'
  obtain ⟨m, hm⟩ := Tryd.laysM143.s1_3 W hsh
  refine (walk a0 a1 w0 w1 W m hm).mono fun e W' ⟨he, hg⟩ => ?_
  subst he
  exact ⟨_, rfl, post_texts hW' (fun _ _ _ => (trodAll_cons_mk (shut_bool Tryd.underlying4 _) trodAll_mk0)) (fun sp => (trodAll_cons_mk (shut_string Tryd.underlying9 w0) (trodAll_cons_mk (shut_string Tryd.underlying9 w1) trodAll_mk0))) (fun _ => rfl)
    hg (ok_one (by kernel_rfl) rfl (okWide_bool_mk Tryd.underlying4 _))⟩

theorem over : Rows.lexerJoinsRow.holds Tryd.pinned (OpenSpec.ofChange Rows.lexerJoinsSpec) :=
  OpenClaim.holds_of_wide 6 Tryd.f6 rfl rfl rfl rfl rfl rfl rfl ⟨rfl, rfl, rfl, rfl, rfl⟩ rfl rfl rfl rfl rfl (by kernel_rfl) Tryd.func6 (by kernel_rfl)
    (of_decide_eq_true (by kernel_rfl)) (by unfold Func.isWrapper; first | (rw [if_pos (by decide +kernel)]; kernel_rfl) | (rw [if_neg (by decide +kernel)]; exact ⟨rfl, rfl⟩))
    (fun os started H enc _ => lifted os started H enc)

/-- ████ THE STATEMENT: THE TIED CARD ████ -/
theorem proved : Rows.LexerJoinsCardSaid :=
  Claim7.holds_tied_plain_at .later [] [.data, .pinned] true (true, "d802cc47a91f01ff99b42efe3e5faa499c9dd62bc719bdb57b0c9f4495fbecae") false over (fun _ h => by cases h) (by kernel_rfl) (fun _ h => by cases h) lexerJoins_row_tie rfl ⟨rfl, rfl⟩ (by kernel_rfl) rfl
    (fun f fn hf hfn => by
      obtain rfl : f = 6 := Option.some.inj ((show Tryd.prog.funcNamed "coldplug/coldpluglaw08.LexerJoins" = some 6 by kernel_rfl).symm.trans hf) |>.symm
      obtain rfl : fn = Tryd.f6 := (Option.some.inj (Tryd.func6.symm.trans hfn)).symm
      exact ⟨by kernel_rfl, fun j t ht => by
        rw [Tryd.params6] at ht
        have hm : t ∈ [9] := by
          have := Array.mem_of_getElem? ht
          simp at this ⊢
          exact this
        have hall : ([9].all fun u => !Tryd.prog.wantsStandIn u) = true := by kernel_rfl
        exact (show Tryd.prog.wantsStandIn t = false by simpa using List.all_eq_true.1 hall t hm)⟩)
    (by kernel_rfl)
#print axioms proved
end Go.Proofs.YtofemhaepadggaaDoor.lexerJoins
