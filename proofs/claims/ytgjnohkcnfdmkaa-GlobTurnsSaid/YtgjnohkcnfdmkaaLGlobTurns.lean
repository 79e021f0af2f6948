/-
  The common text does not depend on the order of the patterns, and a pattern and itself have a common text unless it matches nothing (the law GlobTurns): proved for all inputs, without conditions.
-/
import Derived.Test.YtgjnohkcnfdmkaaRows
import Derived.Test.YtgjnohkcnfdmkaaKnown
import Derived.Test.YtgjnohkcnfdmkaaShut
import Derived.Test.YtgjnohkcnfdmkaaTurnsP
import Derived.WalkKit
import Derived.ProofKit
import Derived.OpenShut
import Derived.ShutString
namespace Go.Proofs.Ytgjnohkcnfdmkaa.globTurns
open Go.ChangeShapes Go.WideShapes Go.ChangeAt Go.RowKit
open Go.ChangeMaps (open_string shut_string)
set_option linter.unusedVariables false      -- a walk need not use every 'w<i>' (that an integer argument fits its kind)

theorem own : ownKnob Try.prog.godebug = none := by kernel_rfl

/-! ### STEP 1: THE WALK: the Go text returns true. 'Grown w w'': the world has at most new blocks (Derived/RowKit3.lean). Part the cases AHEAD of 'go_enter' where a test parts the walk; take each callee by a contract of your own. -/
open Go.Proofs.Ytgjnohkcnfdmkaa in
set_option maxHeartbeats 2000000 in
theorem walk (a0 : ByteArray) (a1 : ByteArray) (a2 : ByteArray) (w0 : a0.size ≤ maxLen) (w1 : a1.size ≤ maxLen) (w2 : a2.size ≤ maxLen) (w : World) :
    Calls Try.prog 9 #[.string a0, .string a1, .string a2] w fun e w' => e = .returned (.bool true) ∧ Below w.heap.size w w' := by
  have hK := fun W => known_any W
  have hK' := Lib.hid hK; clear hK
  by_cases s0 : a0.size ≤ 16
  · by_cases s1 : a1.size ≤ 16
    · by_cases s2 : a2.size ≤ 40
      · have i0 : ¬ (16 : Int) < (a0.size : Int) := by omega
        have i1 : ¬ (16 : Int) < (a1.size : Int) := by omega
        have i2 : ¬ (40 : Int) < (a2.size : Int) := by omega
        have hC1 := fun W => common_any a0 a1 W (by omega) (by omega)
        have hC2 := fun W => common_any a1 a0 W (by omega) (by omega)
        have hC3 := fun W => common_any a0 a0 W (by omega) (by omega)
        have hC4 := fun W => common_any a0 ⟨#[42]⟩ W (by omega) (by decide)
        have hM := fun W => match_any a0 a2 W (by omega) (by omega)
        have hC1' := Lib.hid hC1; clear hC1
        have hC2' := Lib.hid hC2; clear hC2
        have hC3' := Lib.hid hC3; clear hC3
        have hC4' := Lib.hid hC4; clear hC4
        have hM' := Lib.hid hM; clear hM
        go_enter Try.func9, Try.ntmps9
        go_wp2_with fail
        refine (hK'.out _).mono ?_
        rintro e v1 ⟨rfl, hb1⟩
        have k1' := Lib.hid hb1; clear hb1
        go_wp2_with fail
        refine (hC1'.out _).mono ?_
        rintro e v2 ⟨t, ok, er, rfl, hb2, h1, z1⟩
        have k2 : Below w.heap.size w v2 := k1'.out.trans (hb2.mono k1'.out.size)
        have k2' := Lib.hid k2; clear k2 hb2 k1'
        have h1' := Lib.hid h1; clear h1 z1
        go_wp2_with fail
        refine (hC2'.out _).mono ?_
        rintro e v3 ⟨u, is, fr, rfl, hb3, h2, z2⟩
        have k3 : Below w.heap.size w v3 := k2'.out.trans (hb3.mono k2'.out.size)
        have k3' := Lib.hid k3; clear k3 hb3 k2'
        have h2' := Lib.hid h2; clear h2 z2
        go_wp2_with fail
        refine (hC3'.out _).mono ?_
        rintro e v4 ⟨v, has, gr, rfl, hb4, h3, z3⟩
        have k4 : Below w.heap.size w v4 := k3'.out.trans (hb4.mono k3'.out.size)
        have k4' := Lib.hid k4; clear k4 hb4 k3'
        have h3' := Lib.hid h3; clear h3 z3
        go_wp2_with fail
        refine (hC4'.out _).mono ?_
        rintro e v5 ⟨x, own, hr, rfl, hb5, h4, z4⟩
        have k5 : Below w.heap.size w v5 := k4'.out.trans (hb5.mono k4'.out.size)
        have k5' := Lib.hid k5; clear k5 hb5 k4'
        have h4' := Lib.hid h4; clear h4 z4
        obtain ⟨q1, q2, q3⟩ := turn_of h1'.out h2'.out
        obtain ⟨q4, q5, q6⟩ := self_of h3'.out h4'.out
        have hself := fun h => self_least (s := bs a2) h3'.out h
        obtain rfl := bs_eq q1
        subst q2
        obtain rfl := bs_eq q4
        subst q5
        subst q6
        have hS := fun W => less_any2 a2 v W
        have hS' := Lib.hid hS; clear hS
        clear h1' h2' h3' h4' q1 q4 hC1' hC2' hC3' hC4'
        generalize G.matchS (bs a0) (bs a2) = m at *
        by_cases her : er = 0
        · have hfr := q3.1 her
          subst her
          subst hfr
          clear q3
          go_wp2_with fail
          refine (hM'.out _).mono ?_
          rintro e v6 ⟨rfl, hb6⟩
          have k6 : Below w.heap.size w v6 := k5'.out.trans (hb6.mono k5'.out.size)
          have k6' := Lib.hid k6; clear k6 hb6 k5'
          cases m with
          | false =>
            go_wp2_with fail
            go_ret
            exact ⟨rfl, k6'.out⟩
          | true =>
            obtain ⟨hh, hle⟩ := hself (by first | rfl | trivial)
            subst hh
            have hlb := not_less hle
            clear hle hself
            go_wp2_with fail
            refine (hS'.out _).mono ?_
            rintro e v7 ⟨rfl, rfl⟩
            rw [hlb]
            go_wp2_with fail
            go_ret
            exact ⟨rfl, k6'.out⟩
        · have hfr : ¬ fr = 0 := fun h => her (q3.2 h)
          have e1 : (er == 0) = false := by rw [beq_eq_false_iff_ne]; exact her
          have e2 : (fr == 0) = false := by rw [beq_eq_false_iff_ne]; exact hfr
          clear q3
          go_wp2_with fail
          refine (hM'.out _).mono ?_
          rintro e v6 ⟨rfl, hb6⟩
          have k6 : Below w.heap.size w v6 := k5'.out.trans (hb6.mono k5'.out.size)
          have k6' := Lib.hid k6; clear k6 hb6 k5'
          cases m with
          | false =>
            go_wp2_with fail
            go_ret
            exact ⟨rfl, k6'.out⟩
          | true =>
            obtain ⟨hh, hle⟩ := hself (by first | rfl | trivial)
            subst hh
            have hlb := not_less hle
            clear hle hself
            go_wp2_with fail
            refine (hS'.out _).mono ?_
            rintro e v7 ⟨rfl, rfl⟩
            rw [hlb]
            go_wp2_with fail
            go_ret
            exact ⟨rfl, k6'.out⟩
      · have i0 : ¬ (16 : Int) < (a0.size : Int) := by omega
        have i1 : ¬ (16 : Int) < (a1.size : Int) := by omega
        have i2 : (40 : Int) < (a2.size : Int) := by omega
        go_enter Try.func9, Try.ntmps9
        go_wp2_with fail
        refine (hK'.out _).mono ?_
        rintro e v1 ⟨rfl, hb1⟩
        have k1 : Below w.heap.size w v1 := hb1
        have k1' := Lib.hid k1; clear k1 hb1
        go_wp2_with fail
        go_ret
        exact ⟨rfl, k1'.out⟩
    · have i0 : ¬ (16 : Int) < (a0.size : Int) := by omega
      have i1 : (16 : Int) < (a1.size : Int) := by omega
      go_enter Try.func9, Try.ntmps9
      go_wp2_with fail
      refine (hK'.out _).mono ?_
      rintro e v1 ⟨rfl, hb1⟩
      have k1 : Below w.heap.size w v1 := hb1
      have k1' := Lib.hid k1; clear k1 hb1
      go_wp2_with fail
      go_ret
      exact ⟨rfl, k1'.out⟩
  · have i0 : (16 : Int) < (a0.size : Int) := by omega
    go_enter Try.func9, Try.ntmps9
    go_wp2_with fail
    refine (hK'.out _).mono ?_
    rintro e v1 ⟨rfl, hb1⟩
    have k1 : Below w.heap.size w v1 := hb1
    have k1' := Lib.hid k1; clear k1 hb1
    go_wp2_with fail
    go_ret
    exact ⟨rfl, k1'.out⟩

/-! ### THE ROW's STEP: WRITTEN OUT: LEAVE IT -/
set_option maxRecDepth 100000 in
theorem lifted (os : Os) (started : os.Started) (H : Type) (enc : TypeId × Value → H) :
    ReturnsInHanded {} Try.checked os 9 .any (Rows.globTurnsSpec.pre6 enc Try.prog Try.f9 Rows.globTurnsRow.domain false) (Rows.globTurnsSpec.post enc Try.prog Try.f9 false true false false) := by
  refine returnsInHanded_of_change (C := Try.checked) own started (by kernel_rfl) Try.func9
    (ChangeSpec.witness6 (enc := enc) (C := Try.checked) false ⟨#[], #[.string ByteArray.empty, .string ByteArray.empty, .string ByteArray.empty], []⟩ 8 (by kernel_rfl) (by kernel_rfl) (by kernel_rfl) (by kernel_rfl)) ?_
  intro W base args ds gs before hval0 hW hcnd _
  have hval : ∀ (j : Nat) t v, Try.f9.params[j]? = some t → args[j]? = some v → Value.okWide Try.prog W .any base t v := hval0
  have hW' := hW
  obtain ⟨p, q, hA0, hV, rfl, hfz, hnd⟩ := hW
  have hA : DataW.TrodAll enc Try.prog W 0 (fun _ => true) true Try.f9.params.toList args.toList ds p := hA0
  rw [Try.params9] at hA hval
  obtain ⟨v0, vs0, d0, ds0, p0, q0, hargs, rfl, rfl, h0, r0⟩ := trodAll_cons hA
  obtain ⟨v1, vs1, d1, ds1, p1, q1, rfl, rfl, rfl, h1, r1⟩ := trodAll_cons r0
  obtain ⟨v2, vs2, d2, ds2, p2, q2, rfl, rfl, rfl, h2, r2⟩ := trodAll_cons r1
  obtain ⟨rfl, rfl, rfl⟩ := trodAll_nil r2
  obtain rfl : args = #[v0, v1, v2] := by cases args; simp_all
  obtain ⟨rfl, rfl⟩ := trodVars_none hV
  obtain ⟨a0, rfl, rfl, rfl, w0⟩ := open_string Try.underlying9 (hval 0 9 v0 rfl rfl) h0
  obtain ⟨a1, rfl, rfl, rfl, w1⟩ := open_string Try.underlying9 (hval 1 9 v1 rfl rfl) h1
  obtain ⟨a2, rfl, rfl, rfl, w2⟩ := open_string Try.underlying9 (hval 2 9 v2 rfl rfl) h2
  clear hA0 hval0
  simp only [List.append_nil] at hW'
  refine (walk a0 a1 a2 w0 w1 w2 W).mono fun e W' ⟨he, hg⟩ => ?_
  subst he
  exact ⟨_, rfl, post_texts hW' (fun _ _ _ => (trodAll_cons_mk (shut_bool Try.underlying4 _) trodAll_mk0)) (fun sp => (trodAll_cons_mk (shut_string Try.underlying9 w0) (trodAll_cons_mk (shut_string Try.underlying9 w1) (trodAll_cons_mk (shut_string Try.underlying9 w2) trodAll_mk0)))) (fun _ => rfl)
    hg (ok_one (by kernel_rfl) rfl (okWide_bool_mk Try.underlying4 _))⟩

theorem over : Rows.globTurnsRow.holds Try.pinned (OpenSpec.ofChange Rows.globTurnsSpec) :=
  OpenClaim.holds_of_wide 9 Try.f9 rfl rfl rfl rfl rfl rfl rfl ⟨rfl, rfl, rfl, rfl, rfl⟩ rfl rfl rfl rfl rfl (by kernel_rfl) Try.func9 (by kernel_rfl)
    (of_decide_eq_true (by kernel_rfl)) (by unfold Func.isWrapper; first | (rw [if_pos (by decide +kernel)]; kernel_rfl) | (rw [if_neg (by decide +kernel)]; exact ⟨rfl, rfl⟩))
    (fun os started H enc _ => lifted os started H enc)

/-- ████ THE STATEMENT ████ -/
theorem proved : Rows.GlobTurnsSaid :=
  over
#print axioms proved
end Go.Proofs.Ytgjnohkcnfdmkaa.globTurns
