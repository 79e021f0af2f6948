/-
  Which texts a pattern matches (the law GlobMatches): proved for all inputs, without conditions.
-/
import Derived.Test.YtgjnohkcnfdmkaaRows
import Derived.Test.YtgjnohkcnfdmkaaKnown
import Derived.Test.YtgjnohkcnfdmkaaShut
import Derived.Test.YtgjnohkcnfdmkaaRefMatch
import Derived.WalkKit
import Derived.ProofKit
import Derived.OpenShut
import Derived.ShutString
namespace Go.Proofs.Ytgjnohkcnfdmkaa.globMatches
open Go.ChangeShapes Go.WideShapes Go.ChangeAt Go.RowKit
open Go.ChangeMaps (open_string shut_string)
set_option linter.unusedVariables false      -- a walk need not use every 'w<i>' (that an integer argument fits its kind)

theorem own : ownKnob Try.prog.godebug = none := by kernel_rfl

/-! ### STEP 1: THE WALK: the Go text returns true. 'Grown w w'': the world has at most new blocks (Derived/RowKit3.lean). Part the cases AHEAD of 'go_enter' where a test parts the walk; take each callee by a contract of your own. -/
open Go.Proofs.Ytgjnohkcnfdmkaa in
set_option maxHeartbeats 2000000 in
theorem walk (a0 : ByteArray) (a1 : ByteArray) (w0 : a0.size ≤ maxLen) (w1 : a1.size ≤ maxLen) (w : World) :
    Calls Try.prog 7 #[.string a0, .string a1] w fun e w' => e = .returned (.bool true) ∧ Below w.heap.size w w' := by
  have hK := fun W => known_any W
  have hK' := Lib.hid hK; clear hK
  by_cases s0 : a0.size ≤ 300
  · by_cases s1 : a1.size ≤ 200
    · have i0 : ¬ (300 : Int) < (a0.size : Int) := by omega
      have i1 : ¬ (200 : Int) < (a1.size : Int) := by omega
      have hC := fun W => match_any a0 a1 W (by omega) (by omega)
      have hR := fun W => rmatch_any a0 a1 W (by omega) (by omega)
      have hC' := Lib.hid hC; clear hC
      have hR' := Lib.hid hR; clear hR
      generalize G.matchS (bs a0) (bs a1) = m at *
      cases m with
      | false =>
        go_enter Try.func7, Try.ntmps7
        go_wp2_with fail
        refine (hC'.out _).mono ?_
        rintro e v1 ⟨rfl, hb1⟩
        have k1 : Below w.heap.size w v1 := hb1
        have k1' := Lib.hid k1; clear k1 hb1
        go_wp2_with fail
        refine (hR'.out _).mono ?_
        rintro e v2 ⟨rfl, hb2⟩
        have k2 : Below w.heap.size w v2 := k1'.out.trans (hb2.mono k1'.out.size)
        have k2' := Lib.hid k2; clear k2 hb2 k1'
        go_wp2_with fail
        refine (hK'.out _).mono ?_
        rintro e v3 ⟨rfl, hb3⟩
        have k3 : Below w.heap.size w v3 := k2'.out.trans (hb3.mono k2'.out.size)
        have k3' := Lib.hid k3; clear k3 hb3 k2'
        go_wp2_with fail
        go_ret
        exact ⟨rfl, k3'.out⟩
      | true =>
        go_enter Try.func7, Try.ntmps7
        go_wp2_with fail
        refine (hC'.out _).mono ?_
        rintro e v1 ⟨rfl, hb1⟩
        have k1 : Below w.heap.size w v1 := hb1
        have k1' := Lib.hid k1; clear k1 hb1
        go_wp2_with fail
        refine (hR'.out _).mono ?_
        rintro e v2 ⟨rfl, hb2⟩
        have k2 : Below w.heap.size w v2 := k1'.out.trans (hb2.mono k1'.out.size)
        have k2' := Lib.hid k2; clear k2 hb2 k1'
        go_wp2_with fail
        refine (hK'.out _).mono ?_
        rintro e v3 ⟨rfl, hb3⟩
        have k3 : Below w.heap.size w v3 := k2'.out.trans (hb3.mono k2'.out.size)
        have k3' := Lib.hid k3; clear k3 hb3 k2'
        go_wp2_with fail
        go_ret
        exact ⟨rfl, k3'.out⟩
    · have i0 : ¬ (300 : Int) < (a0.size : Int) := by omega
      have i1 : (200 : Int) < (a1.size : Int) := by omega
      go_enter Try.func7, Try.ntmps7
      go_wp2_with fail
      refine (hK'.out _).mono ?_
      rintro e v1 ⟨rfl, hb1⟩
      have k1 : Below w.heap.size w v1 := hb1
      have k1' := Lib.hid k1; clear k1 hb1
      go_wp2_with fail
      go_ret
      exact ⟨rfl, k1'.out⟩
  · have i0 : (300 : Int) < (a0.size : Int) := by omega
    go_enter Try.func7, Try.ntmps7
    go_wp2_with fail
    refine (hK'.out _).mono ?_
    rintro e v1 ⟨rfl, hb1⟩
    have k1 : Below w.heap.size w v1 := hb1
    have k1' := Lib.hid k1; clear k1 hb1
    go_wp2_with fail
    go_ret
    exact ⟨rfl, k1'.out⟩

/-! ### THE ROW's STEP: WRITTEN OUT: LEAVE IT -/
set_option maxRecDepth 100000 in
theorem lifted (os : Os) (started : os.Started) (H : Type) (enc : TypeId × Value → H) :
    ReturnsInHanded {} Try.checked os 7 .any (Rows.globMatchesSpec.pre6 enc Try.prog Try.f7 Rows.globMatchesRow.domain false) (Rows.globMatchesSpec.post enc Try.prog Try.f7 false true false false) := by
  refine returnsInHanded_of_change (C := Try.checked) own started (by kernel_rfl) Try.func7
    (ChangeSpec.witness6 (enc := enc) (C := Try.checked) false ⟨#[], #[.string ByteArray.empty, .string ByteArray.empty], []⟩ 8 (by kernel_rfl) (by kernel_rfl) (by kernel_rfl) (by kernel_rfl)) ?_
  intro W base args ds gs before hval0 hW hcnd _
  have hval : ∀ (j : Nat) t v, Try.f7.params[j]? = some t → args[j]? = some v → Value.okWide Try.prog W .any base t v := hval0
  have hW' := hW
  obtain ⟨p, q, hA0, hV, rfl, hfz, hnd⟩ := hW
  have hA : DataW.TrodAll enc Try.prog W 0 (fun _ => true) true Try.f7.params.toList args.toList ds p := hA0
  rw [Try.params7] at hA hval
  obtain ⟨v0, vs0, d0, ds0, p0, q0, hargs, rfl, rfl, h0, r0⟩ := trodAll_cons hA
  obtain ⟨v1, vs1, d1, ds1, p1, q1, rfl, rfl, rfl, h1, r1⟩ := trodAll_cons r0
  obtain ⟨rfl, rfl, rfl⟩ := trodAll_nil r1
  obtain rfl : args = #[v0, v1] := by cases args; simp_all
  obtain ⟨rfl, rfl⟩ := trodVars_none hV
  obtain ⟨a0, rfl, rfl, rfl, w0⟩ := open_string Try.underlying9 (hval 0 9 v0 rfl rfl) h0
  obtain ⟨a1, rfl, rfl, rfl, w1⟩ := open_string Try.underlying9 (hval 1 9 v1 rfl rfl) h1
  clear hA0 hval0
  simp only [List.append_nil] at hW'
  refine (walk a0 a1 w0 w1 W).mono fun e W' ⟨he, hg⟩ => ?_
  subst he
  exact ⟨_, rfl, post_texts hW' (fun _ _ _ => (trodAll_cons_mk (shut_bool Try.underlying4 _) trodAll_mk0)) (fun sp => (trodAll_cons_mk (shut_string Try.underlying9 w0) (trodAll_cons_mk (shut_string Try.underlying9 w1) trodAll_mk0))) (fun _ => rfl)
    hg (ok_one (by kernel_rfl) rfl (okWide_bool_mk Try.underlying4 _))⟩

theorem over : Rows.globMatchesRow.holds Try.pinned (OpenSpec.ofChange Rows.globMatchesSpec) :=
  OpenClaim.holds_of_wide 7 Try.f7 rfl rfl rfl rfl rfl rfl rfl ⟨rfl, rfl, rfl, rfl, rfl⟩ rfl rfl rfl rfl rfl (by kernel_rfl) Try.func7 (by kernel_rfl)
    (of_decide_eq_true (by kernel_rfl)) (by unfold Func.isWrapper; first | (rw [if_pos (by decide +kernel)]; kernel_rfl) | (rw [if_neg (by decide +kernel)]; exact ⟨rfl, rfl⟩))
    (fun os started H enc _ => lifted os started H enc)

/-- ████ THE STATEMENT ████ -/
theorem proved : Rows.GlobMatchesSaid :=
  over
#print axioms proved
end Go.Proofs.Ytgjnohkcnfdmkaa.globMatches
