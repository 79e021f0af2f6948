/-
  A text that two patterns match is no less than their common text, which both match, and without a common text they never match the same text (the law GlobMeets): proved for all inputs, without conditions.
-/
import Derived.Test.YtgjnohkcnfdmkaaRows
import Derived.Test.YtgjnohkcnfdmkaaKnown
import Derived.Test.YtgjnohkcnfdmkaaShut
import Derived.Test.YtgjnohkcnfdmkaaLess
import Derived.WalkKit
import Derived.ProofKit
import Derived.OpenShut
import Derived.ShutString
namespace Go.Proofs.Ytgjnohkcnfdmkaa.globMeets
open Go.ChangeShapes Go.WideShapes Go.ChangeAt Go.RowKit
open Go.ChangeMaps (open_string shut_string)
set_option linter.unusedVariables false      -- a walk need not use every 'w<i>' (that an integer argument fits its kind)

theorem own : ownKnob Try.prog.godebug = none := by kernel_rfl

/-! ### STEP 1: THE WALK: the Go text returns true. 'Grown w w'': the world has at most new blocks (Derived/RowKit3.lean). Part the cases AHEAD of 'go_enter' where a test parts the walk; take each callee by a contract of your own. -/
open Go.Proofs.Ytgjnohkcnfdmkaa in
set_option maxHeartbeats 2000000 in
theorem walk (a0 : ByteArray) (a1 : ByteArray) (a2 : ByteArray) (w0 : a0.size ≤ maxLen) (w1 : a1.size ≤ maxLen) (w2 : a2.size ≤ maxLen) (w : World) :
    Calls Try.prog 8 #[.string a0, .string a1, .string a2] w fun e w' => e = .returned (.bool true) ∧ Below w.heap.size w w' := by
  have hK := fun W => known_any W
  have hK' := Lib.hid hK; clear hK
  by_cases s0 : a0.size ≤ 16
  · by_cases s1 : a1.size ≤ 16
    · by_cases s2 : a2.size ≤ 40
      · have i0 : ¬ (16 : Int) < (a0.size : Int) := by omega
        have i1 : ¬ (16 : Int) < (a1.size : Int) := by omega
        have i2 : ¬ (40 : Int) < (a2.size : Int) := by omega
        have hC := fun W => common_any a0 a1 W (by omega) (by omega)
        have hM0 := fun W => match_any a0 a2 W (by omega) (by omega)
        have hM1 := fun W => match_any a1 a2 W (by omega) (by omega)
        have hC' := Lib.hid hC; clear hC
        have hM0' := Lib.hid hM0; clear hM0
        have hM1' := Lib.hid hM1; clear hM1
        go_enter Try.func8, Try.ntmps8
        go_wp2_with fail
        refine (hK'.out _).mono ?_
        rintro e v1 ⟨rfl, hb1⟩
        have k1' := Lib.hid hb1; clear hb1
        go_wp2_with fail
        refine (hC'.out _).mono ?_
        rintro e v2 ⟨t, ok, er, rfl, hb2, his, hsz⟩
        have k2 : Below w.heap.size w v2 := k1'.out.trans (hb2.mono k1'.out.size)
        have k2' := Lib.hid k2; clear k2 hb2 k1' hC'
        by_cases her : er = 0
        · have z0 : errS (bs a0) = 0 := Classical.byContradiction fun h => h ((his.1 h).2.2.symm.trans her)
          have z1 : errS (bs a1) = 0 := Classical.byContradiction fun h => h ((his.2.1 z0 h).2.2.symm.trans her)
          obtain ⟨_, _, hc⟩ := his.2.2 z0 z1
          subst her
          clear his z0 z1
          cases ok with
          | true =>
            have hc2 := hc.2 (bs t) rfl
            have hP0 : ∀ W, Calls Try.prog 21 #[.string a0, .string t] W fun e w' => e = .returned (.bool true) ∧ Below W.heap.size W w' := fun W => by
              have h := match_any a0 t W (by omega) (by omega)
              rw [hc2.1] at h
              exact h
            have hP1 : ∀ W, Calls Try.prog 21 #[.string a1, .string t] W fun e w' => e = .returned (.bool true) ∧ Below W.heap.size W w' := fun W => by
              have h := match_any a1 t W (by omega) (by omega)
              rw [hc2.2.1] at h
              exact h
            have hle := hc2.2.2 (bs a2)
            clear hc hc2
            have hP0' := Lib.hid hP0; clear hP0
            have hP1' := Lib.hid hP1; clear hP1
            have hS := fun W => less_any2 a2 t W
            have hS' := Lib.hid hS; clear hS
            generalize G.matchS (bs a0) (bs a2) = m0 at *
            generalize G.matchS (bs a1) (bs a2) = m1 at *
            go_wp2_with fail
            refine (hP0'.out _).mono ?_
            rintro e v3 ⟨rfl, hb3⟩
            have k3 : Below w.heap.size w v3 := k2'.out.trans (hb3.mono k2'.out.size)
            have k3' := Lib.hid k3; clear k3 hb3 k2'
            go_wp2_with fail
            refine (hP1'.out _).mono ?_
            rintro e v4 ⟨rfl, hb4⟩
            have k4 : Below w.heap.size w v4 := k3'.out.trans (hb4.mono k3'.out.size)
            have k4' := Lib.hid k4; clear k4 hb4 k3'
            go_wp2_with fail
            refine (hM0'.out _).mono ?_
            rintro e v5 ⟨rfl, hb5⟩
            have k5 : Below w.heap.size w v5 := k4'.out.trans (hb5.mono k4'.out.size)
            have k5' := Lib.hid k5; clear k5 hb5 k4'
            cases m0 with
            | false =>
              go_wp2_with fail
              go_ret
              exact ⟨rfl, k5'.out⟩
            | true =>
              go_wp2_with fail
              refine (hM1'.out _).mono ?_
              rintro e v6 ⟨rfl, hb6⟩
              have k6 : Below w.heap.size w v6 := k5'.out.trans (hb6.mono k5'.out.size)
              have k6' := Lib.hid k6; clear k6 hb6 k5'
              cases m1 with
              | false =>
                go_wp2_with fail
                go_ret
                exact ⟨rfl, k6'.out⟩
              | true =>
                have hlb := not_less (hle (by first | rfl | trivial) (by first | rfl | trivial))
                go_wp2_with fail
                refine (hS'.out _).mono ?_
                rintro e v7 ⟨rfl, rfl⟩
                rw [hlb]
                go_wp2_with fail
                go_ret
                exact ⟨rfl, k6'.out⟩
          | false =>
            have hno : ¬ (G.matchS (bs a0) (bs a2) = true ∧ G.matchS (bs a1) (bs a2) = true) := hc.1 rfl (bs a2)
            clear hc
            generalize G.matchS (bs a0) (bs a2) = m0 at *
            generalize G.matchS (bs a1) (bs a2) = m1 at *
            go_wp2_with fail
            refine (hM0'.out _).mono ?_
            rintro e v3 ⟨rfl, hb3⟩
            have k3 : Below w.heap.size w v3 := k2'.out.trans (hb3.mono k2'.out.size)
            have k3' := Lib.hid k3; clear k3 hb3 k2'
            cases m0 with
            | false =>
              go_wp2_with fail
              go_ret
              exact ⟨rfl, k3'.out⟩
            | true =>
              go_wp2_with fail
              refine (hM1'.out _).mono ?_
              rintro e v4 ⟨rfl, hb4⟩
              have k4 : Below w.heap.size w v4 := k3'.out.trans (hb4.mono k3'.out.size)
              have k4' := Lib.hid k4; clear k4 hb4 k3'
              cases m1 with
              | false =>
                go_wp2_with fail
                go_ret
                exact ⟨rfl, k4'.out⟩
              | true => exact (hno ⟨by first | rfl | trivial, by first | rfl | trivial⟩).elim
        · have hno : ¬ (G.matchS (bs a0) (bs a2) = true ∧ G.matchS (bs a1) (bs a2) = true) := fun h => by
            cases e0 : G.alts (bs a0) with
            | none => have h1 := h.1; unfold G.matchS at h1; rw [e0] at h1; cases h1
            | some P =>
              cases e1 : G.alts (bs a1) with
              | none => have h1 := h.2; unfold G.matchS at h1; rw [e1] at h1; cases h1
              | some Q => exact her (his.2.2 (errS_some e0) (errS_some e1)).1
          have her' : (er != 0) = true := by simpa using her
          clear his
          generalize G.matchS (bs a0) (bs a2) = m0 at *
          generalize G.matchS (bs a1) (bs a2) = m1 at *
          go_wp2_with fail
          refine (hM0'.out _).mono ?_
          rintro e v3 ⟨rfl, hb3⟩
          have k3 : Below w.heap.size w v3 := k2'.out.trans (hb3.mono k2'.out.size)
          have k3' := Lib.hid k3; clear k3 hb3 k2'
          cases m0 with
          | false =>
            go_wp2_with fail
            go_ret
            exact ⟨rfl, k3'.out⟩
          | true =>
            go_wp2_with fail
            refine (hM1'.out _).mono ?_
            rintro e v4 ⟨rfl, hb4⟩
            have k4 : Below w.heap.size w v4 := k3'.out.trans (hb4.mono k3'.out.size)
            have k4' := Lib.hid k4; clear k4 hb4 k3'
            cases m1 with
            | false =>
              go_wp2_with fail
              go_ret
              exact ⟨rfl, k4'.out⟩
            | true => exact (hno ⟨by first | rfl | trivial, by first | rfl | trivial⟩).elim
      · have i0 : ¬ (16 : Int) < (a0.size : Int) := by omega
        have i1 : ¬ (16 : Int) < (a1.size : Int) := by omega
        have i2 : (40 : Int) < (a2.size : Int) := by omega
        go_enter Try.func8, Try.ntmps8
        go_wp2_with fail
        refine (hK'.out _).mono ?_
        rintro e v1 ⟨rfl, hb1⟩
        have k1 : Below w.heap.size w v1 := hb1
        have k1' := Lib.hid k1; clear k1 hb1
        go_wp2_with fail
        go_ret
        exact ⟨rfl, k1'.out⟩
    · have i0 : ¬ (16 : Int) < (a0.size : Int) := by omega
      have i1 : (16 : Int) < (a1.size : Int) := by omega
      go_enter Try.func8, Try.ntmps8
      go_wp2_with fail
      refine (hK'.out _).mono ?_
      rintro e v1 ⟨rfl, hb1⟩
      have k1 : Below w.heap.size w v1 := hb1
      have k1' := Lib.hid k1; clear k1 hb1
      go_wp2_with fail
      go_ret
      exact ⟨rfl, k1'.out⟩
  · have i0 : (16 : Int) < (a0.size : Int) := by omega
    go_enter Try.func8, Try.ntmps8
    go_wp2_with fail
    refine (hK'.out _).mono ?_
    rintro e v1 ⟨rfl, hb1⟩
    have k1 : Below w.heap.size w v1 := hb1
    have k1' := Lib.hid k1; clear k1 hb1
    go_wp2_with fail
    go_ret
    exact ⟨rfl, k1'.out⟩

/-! ### THE ROW's STEP: WRITTEN OUT: LEAVE IT -/
set_option maxRecDepth 100000 in
theorem lifted (os : Os) (started : os.Started) (H : Type) (enc : TypeId × Value → H) :
    ReturnsInHanded {} Try.checked os 8 .any (Rows.globMeetsSpec.pre6 enc Try.prog Try.f8 Rows.globMeetsRow.domain false) (Rows.globMeetsSpec.post enc Try.prog Try.f8 false true false false) := by
  refine returnsInHanded_of_change (C := Try.checked) own started (by kernel_rfl) Try.func8
    (ChangeSpec.witness6 (enc := enc) (C := Try.checked) false ⟨#[], #[.string ByteArray.empty, .string ByteArray.empty, .string ByteArray.empty], []⟩ 8 (by kernel_rfl) (by kernel_rfl) (by kernel_rfl) (by kernel_rfl)) ?_
  intro W base args ds gs before hval0 hW hcnd _
  have hval : ∀ (j : Nat) t v, Try.f8.params[j]? = some t → args[j]? = some v → Value.okWide Try.prog W .any base t v := hval0
  have hW' := hW
  obtain ⟨p, q, hA0, hV, rfl, hfz, hnd⟩ := hW
  have hA : DataW.TrodAll enc Try.prog W 0 (fun _ => true) true Try.f8.params.toList args.toList ds p := hA0
  rw [Try.params8] at hA hval
  obtain ⟨v0, vs0, d0, ds0, p0, q0, hargs, rfl, rfl, h0, r0⟩ := trodAll_cons hA
  obtain ⟨v1, vs1, d1, ds1, p1, q1, rfl, rfl, rfl, h1, r1⟩ := trodAll_cons r0
  obtain ⟨v2, vs2, d2, ds2, p2, q2, rfl, rfl, rfl, h2, r2⟩ := trodAll_cons r1
  obtain ⟨rfl, rfl, rfl⟩ := trodAll_nil r2
  obtain rfl : args = #[v0, v1, v2] := by cases args; simp_all
  obtain ⟨rfl, rfl⟩ := trodVars_none hV
  obtain ⟨a0, rfl, rfl, rfl, w0⟩ := open_string Try.underlying9 (hval 0 9 v0 rfl rfl) h0
  obtain ⟨a1, rfl, rfl, rfl, w1⟩ := open_string Try.underlying9 (hval 1 9 v1 rfl rfl) h1
  obtain ⟨a2, rfl, rfl, rfl, w2⟩ := open_string Try.underlying9 (hval 2 9 v2 rfl rfl) h2
  clear hA0 hval0
  simp only [List.append_nil] at hW'
  refine (walk a0 a1 a2 w0 w1 w2 W).mono fun e W' ⟨he, hg⟩ => ?_
  subst he
  exact ⟨_, rfl, post_texts hW' (fun _ _ _ => (trodAll_cons_mk (shut_bool Try.underlying4 _) trodAll_mk0)) (fun sp => (trodAll_cons_mk (shut_string Try.underlying9 w0) (trodAll_cons_mk (shut_string Try.underlying9 w1) (trodAll_cons_mk (shut_string Try.underlying9 w2) trodAll_mk0)))) (fun _ => rfl)
    hg (ok_one (by kernel_rfl) rfl (okWide_bool_mk Try.underlying4 _))⟩

theorem over : Rows.globMeetsRow.holds Try.pinned (OpenSpec.ofChange Rows.globMeetsSpec) :=
  OpenClaim.holds_of_wide 8 Try.f8 rfl rfl rfl rfl rfl rfl rfl ⟨rfl, rfl, rfl, rfl, rfl⟩ rfl rfl rfl rfl rfl (by kernel_rfl) Try.func8 (by kernel_rfl)
    (of_decide_eq_true (by kernel_rfl)) (by unfold Func.isWrapper; first | (rw [if_pos (by decide +kernel)]; kernel_rfl) | (rw [if_neg (by decide +kernel)]; exact ⟨rfl, rfl⟩))
    (fun os started H enc _ => lifted os started H enc)

/-- ████ THE STATEMENT ████ -/
theorem proved : Rows.GlobMeetsSaid :=
  over
#print axioms proved
end Go.Proofs.Ytgjnohkcnfdmkaa.globMeets
