/-
  The law LexerLines, with the tied card of its row: proved for all inputs, without conditions.
-/
import Derived.Test.YtofemhaepadggaaDoorRows
import Derived.Test.YtofemhaepadggaaDoorCards
import Derived.Test.YtofemhaepadggaaDoorTie
import Derived.Test.YtofemhaepadggaaDoorDoor
import Derived.Test.YtofemhaepadggaaDoorShut
import Derived.Test.YtofemhaepadggaaDoorLexKnown
import Derived.Test.YtofemhaepadggaaDoorLexRefLines
import Derived.WalkKit
import Derived.ProofKit
import Derived.OpenShut
import Derived.ShutString
import Derived.LaidMore
import Derived.Lay
import Derived.SevenTiedAt
import Derived.Stop.Joined
import Derived.ChangeOld
import Derived.Below
import Derived.Laws.AppendOwnNone
namespace Go.Proofs.YtofemhaepadggaaDoor.lexerLines
open Go.ChangeShapes Go.WideShapes Go.ChangeAt Go.RowKit
open Go.ChangeMaps (open_string shut_string)
open Go.Proofs.YtofemhaepadggaaDoor
set_option linter.unusedVariables false      -- a walk need not use every 'w<i>' (that an integer argument fits its kind)

theorem own : ownKnob Tryd.prog.godebug = none := by kernel_rfl

/-! ### STEP 1: THE WALK: the Go text returns true. 'Grown w w'': the world has at most new blocks (Derived/RowKit3.lean). Part the cases AHEAD of 'go_enter' where a test parts the walk; take each callee by a contract of your own. -/
open Go.Proofs.YtofemhaepadggaaDoor in
theorem lnGo_len (bl : ByteArray → Bool) : ∀ (f n : Nat) (l : List ByteArray), (lnGo bl f n l).length ≤ f
  | 0, n, l => Nat.le_refl _
  | f + 1, n, [] => Nat.zero_le _
  | f + 1, n, x :: l => by
    have ih := lnGo_len bl f (n + (grp (x :: l)).2) ((x :: l).drop (grp (x :: l)).2)
    show ((if bl (grp (x :: l)).1 then [] else [(n + 1, (grp (x :: l)).1)]) ++ lnGo bl f (n + (grp (x :: l)).2) ((x :: l).drop (grp (x :: l)).2)).length ≤ f + 1
    rw [List.length_append]
    split
    · simp; omega
    · simp; omega
open Go.Proofs.YtofemhaepadggaaDoor in
theorem linesS_len (s : ByteArray) : (linesS s).length ≤ s.size + 2 := by
  have h1 := lnGo_len blankB ((phys s).length + 1) 0 (phys s)
  have h2 := (pieces_len s).2
  have h3 : (phys s).length ≤ (pieces s).length := by
    unfold phys
    split
    · rw [List.length_dropLast]; omega
    · exact Nat.le_refl _
  unfold linesS
  omega

open Go.Proofs.YtofemhaepadggaaDoor in
set_option maxHeartbeats 2000000 in
theorem walk (a0 : ByteArray) (w0 : a0.size ≤ maxLen) (w : World) (m : Int) (hm : w.cell? ⟨0, 0, none⟩ = some (.int .i64 m)) :
    Calls Tryd.prog 5 #[.string a0] w fun e w' => e = .returned (.bool true) ∧ Below w.heap.size w w' := by
  have h0lt : 0 < w.heap.size := World.block_lt_of_cell? w _ hm
  have hK := fun W hW => lknown_any W m hW
  have hK' := Lib.hid hK; clear hK
  by_cases s0 : a0.size ≤ 2000
  · have i0 : ¬ (2000 : Int) < (a0.size : Int) := by omega
    have hI := fun W hW => lines_any a0 m W (by omega) hW
    have hR := fun W hW => rlines_any a0 m W (by omega) hW
    have hL := linesS_len a0
    generalize linesS a0 = l at *
    have hI' := Lib.hid hI; clear hI
    have hR' := Lib.hid hR; clear hR
    have hm' := Lib.hid hm; clear hm
    have hL' := Lib.hid hL; clear hL
    go_enter Tryd.func5, Tryd.ntmps5
    go_wp2_with fail
    refine (hI'.out _ hm'.out).mono ?_
    rintro e v1 ⟨⟨va, rfl, ha⟩, hb1⟩
    have k1 : Below w.heap.size w v1 := hb1
    have m1 : v1.cell? ⟨0, 0, none⟩ = some (.int .i64 m) := (World.cell?_of_block (k1.block 0 h0lt)).trans hm'.out
    have ha' := Lib.hid ha; clear ha
    have k1' := Lib.hid k1; clear k1 hb1
    have m1' := Lib.hid m1; clear m1
    go_wp2_with fail
    refine (hR'.out _ m1'.out).mono ?_
    rintro e v2 ⟨⟨vb, rfl, hb⟩, hb2⟩
    have k2 : Below w.heap.size w v2 := k1'.out.trans (hb2.mono k1'.out.size)
    have m2 : v2.cell? ⟨0, 0, none⟩ = some (.int .i64 m) := (World.cell?_of_block (k2.block 0 h0lt)).trans hm'.out
    have ha2 : Lns v2 (w.heap.size + 1) va l := own_below ha'.out hb2
    have ha2' := Lib.hid ha2; clear ha2 ha'
    have hb' := Lib.hid hb; clear hb
    have k2' := Lib.hid k2; clear k2 hb2 k1'
    have m2' := Lib.hid m2; clear m2 m1'
    go_wp2_with fail
    refine (sameL_any l l va vb _ _ _ ha2'.out hb'.out (by have := hL'.out; omega)).mono ?_
    rintro e v3 ⟨rfl, hb3⟩
    rw [decide_eq_true (rfl : l = l)]
    have k3 : Below w.heap.size w v3 := k2'.out.trans (hb3.mono k2'.out.size)
    have m3 : v3.cell? ⟨0, 0, none⟩ = some (.int .i64 m) := (World.cell?_of_block (k3.block 0 h0lt)).trans hm'.out
    have k3' := Lib.hid k3; clear k3 hb3 k2' ha2' hb'
    have m3' := Lib.hid m3; clear m3 m2'
    go_wp2_with fail
    refine (hK'.out _ m3'.out).mono ?_
    rintro e v4 ⟨rfl, hb4⟩
    have k4 : Below w.heap.size w v4 := k3'.out.trans (hb4.mono k3'.out.size)
    have k4' := Lib.hid k4; clear k4 hb4 k3' m3'
    go_wp2_with fail
    go_ret
    exact ⟨rfl, k4'.out⟩
  · have i0 : (2000 : Int) < (a0.size : Int) := by omega
    have hm' := Lib.hid hm; clear hm
    go_enter Tryd.func5, Tryd.ntmps5
    go_wp2_with fail
    refine (hK'.out _ hm'.out).mono ?_
    rintro e v1 ⟨rfl, hb1⟩
    have k1' := Lib.hid hb1; clear hb1
    go_wp2_with fail
    go_ret
    exact ⟨rfl, k1'.out⟩

/-! ### THE ROW's STEP: WRITTEN OUT: LEAVE IT -/
set_option maxRecDepth 100000 in
theorem lifted (os : Os) (started : os.Started) (H : Type) (enc : TypeId × Value → H) :
    ReturnsInHanded {} Tryd.checked os 5 .any (fun w args => (Rows.lexerLinesSpec.pre enc Tryd.prog Tryd.f5 Rows.lexerLinesRow.domain false w args ∧ laidMetH Tryd.prog Rows.lexerLinesRow.laid w) ∧ sizedMet enc Tryd.prog Tryd.f5 (OpenSpec.ofChange Rows.lexerLinesSpec) false w args) (Rows.lexerLinesSpec.post enc Tryd.prog Tryd.f5 false true false false) := by
  refine handed_and_shaped (C := Tryd.checked) (X := fun w _ => laidMetH Tryd.prog Rows.lexerLinesRow.laid w) (fun _ _ _ hh h => h.of_heap hh) own started (by kernel_rfl) Tryd.func5
    (ChangeSpec.witness_shaped (enc := enc) (C := Tryd.checked) (os := os) (X := fun w _ => laidMetH Tryd.prog Rows.lexerLinesRow.laid w) false (World.laidAll Tryd.prog os Rows.lexerLinesRow.laid) #[.string ByteArray.empty] 8 (World.laidAll_os _ _ _)
      (World.shaped_of_ZipB (by kernel_rfl) (by kernel_rfl)) (by kernel_rfl) (by kernel_rfl) (by kernel_rfl)
      (by rw [MakeChecks.laidMetH_plain _ _ _ (by kernel_rfl)]; exact laidMet_laidAll _ (by kernel_rfl) (by kernel_rfl))) ?_
  intro W base args ds gs before hval0 hW hcnd hsh _
  have hval : ∀ (j : Nat) t v, Tryd.f5.params[j]? = some t → args[j]? = some v → Value.okWide Tryd.prog W .any base t v := hval0
  have hW' := hW
  obtain ⟨p, q, hA0, hV, rfl, hfz, hnd⟩ := hW
  have hA : DataW.TrodAll enc Tryd.prog W 0 (fun _ => true) true Tryd.f5.params.toList args.toList ds p := hA0
  rw [Tryd.params5] at hA hval
  obtain ⟨v0, vs0, d0, ds0, p0, q0, hargs, rfl, rfl, h0, r0⟩ := trodAll_cons hA
  obtain ⟨rfl, rfl, rfl⟩ := trodAll_nil r0
  obtain rfl : args = #[v0] := by cases args; simp_all
  obtain ⟨rfl, rfl⟩ := trodVars_none hV
  obtain ⟨a0, rfl, rfl, rfl, w0⟩ := open_string Tryd.underlying9 (hval 0 9 v0 rfl rfl) h0
  clear hA0 hval0
  simp only [List.append_nil] at hW'
  obtain ⟨m, hm⟩ := Tryd.laysM143.s1_3 W hsh
  refine (walk a0 w0 W m hm).mono fun e W' ⟨he, hg⟩ => ?_
  subst he
  exact ⟨_, rfl, post_texts hW' (fun _ _ _ => (trodAll_cons_mk (shut_bool Tryd.underlying4 _) trodAll_mk0)) (fun sp => (trodAll_cons_mk (shut_string Tryd.underlying9 w0) trodAll_mk0)) (fun _ => rfl)
    hg (ok_one (by kernel_rfl) rfl (okWide_bool_mk Tryd.underlying4 _))⟩

theorem over : Rows.lexerLinesRow.holds Tryd.pinned (OpenSpec.ofChange Rows.lexerLinesSpec) :=
  OpenClaim.holds_of_wide 5 Tryd.f5 rfl rfl rfl rfl rfl rfl rfl ⟨rfl, rfl, rfl, rfl, rfl⟩ rfl rfl rfl rfl rfl (by kernel_rfl) Tryd.func5 (by kernel_rfl)
    (of_decide_eq_true (by kernel_rfl)) (by unfold Func.isWrapper; first | (rw [if_pos (by decide +kernel)]; kernel_rfl) | (rw [if_neg (by decide +kernel)]; exact ⟨rfl, rfl⟩))
    (fun os started H enc _ => lifted os started H enc)

/-- ████ THE STATEMENT: THE TIED CARD ████ -/
theorem proved : Rows.LexerLinesCardSaid :=
  Claim7.holds_tied_plain_at .later [] [.data, .pinned] true (true, "d802cc47a91f01ff99b42efe3e5faa499c9dd62bc719bdb57b0c9f4495fbecae") false over (fun _ h => by cases h) (by kernel_rfl) (fun _ h => by cases h) lexerLines_row_tie rfl ⟨rfl, rfl⟩ (by kernel_rfl) rfl
    (fun f fn hf hfn => by
      obtain rfl : f = 5 := Option.some.inj ((show Tryd.prog.funcNamed "coldplug/coldpluglaw08.LexerLines" = some 5 by kernel_rfl).symm.trans hf) |>.symm
      obtain rfl : fn = Tryd.f5 := (Option.some.inj (Tryd.func5.symm.trans hfn)).symm
      exact ⟨by kernel_rfl, fun j t ht => by
        rw [Tryd.params5] at ht
        have hm : t ∈ [9] := by
          have := Array.mem_of_getElem? ht
          simp at this ⊢
          exact this
        have hall : ([9].all fun u => !Tryd.prog.wantsStandIn u) = true := by kernel_rfl
        exact (show Tryd.prog.wantsStandIn t = false by simpa using List.all_eq_true.1 hall t hm)⟩)
    (by kernel_rfl)
#print axioms proved
end Go.Proofs.YtofemhaepadggaaDoor.lexerLines
