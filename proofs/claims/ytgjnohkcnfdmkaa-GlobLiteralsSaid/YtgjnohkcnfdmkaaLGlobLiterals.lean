/-
  The only text of any pattern, and the beginning of its texts (the law GlobLiterals): proved for all inputs, without conditions.
-/
import Derived.Test.YtgjnohkcnfdmkaaRows
import Derived.Test.YtgjnohkcnfdmkaaKnown
import Derived.Test.YtgjnohkcnfdmkaaShut
import Derived.Test.YtgjnohkcnfdmkaaRefPrefix
import Derived.Test.YtgjnohkcnfdmkaaTurnsP
import Derived.WalkKit
import Derived.ProofKit
import Derived.OpenShut
import Derived.ShutString
namespace Go.Proofs.Ytgjnohkcnfdmkaa.globLiterals
open Go.ChangeShapes Go.WideShapes Go.ChangeAt Go.RowKit
open Go.ChangeMaps (open_string shut_string)
set_option linter.unusedVariables false      -- a walk need not use every 'w<i>' (that an integer argument fits its kind)

theorem own : ownKnob Try.prog.godebug = none := by kernel_rfl

/-! ### STEP 1: THE WALK: the Go text returns true. 'Grown w w'': the world has at most new blocks (Derived/RowKit3.lean). Part the cases AHEAD of 'go_enter' where a test parts the walk; take each callee by a contract of your own. -/
open Go.Proofs.Ytgjnohkcnfdmkaa in
set_option maxHeartbeats 2000000 in
theorem walk (a0 : ByteArray) (w0 : a0.size ≤ maxLen) (w : World) :
    Calls Try.prog 13 #[.string a0] w fun e w' => e = .returned (.bool true) ∧ Below w.heap.size w w' := by
  have hK := fun W => known_any W
  have hK' := Lib.hid hK; clear hK
  by_cases s0 : a0.size ≤ 300
  · have i0 : ¬ (300 : Int) < (a0.size : Int) := by omega
    have hL := fun W => literal_any a0 W (by omega)
    have hM := fun W => rliteral_any a0 W (by omega)
    have hX := fun W => prefix_any a0 W (by omega)
    have hY := fun W => rprefix_any a0 W (by omega)
    have hL' := Lib.hid hL; clear hL
    have hM' := Lib.hid hM; clear hM
    have hX' := Lib.hid hX; clear hX
    have hY' := Lib.hid hY; clear hY
    go_enter Try.func13, Try.ntmps13
    go_wp2_with fail
    refine (hL'.out _).mono ?_
    rintro e v1 ⟨s, ok, rfl, t1, t2, hb1⟩
    have k1' := Lib.hid hb1; clear hb1
    have t1' := Lib.hid t1; clear t1
    have t2' := Lib.hid t2; clear t2
    go_wp2_with fail
    refine (hM'.out _).mono ?_
    rintro e v2 ⟨t, is, rfl, t3, t4, hb2⟩
    have k2 : Below w.heap.size w v2 := k1'.out.trans (hb2.mono k1'.out.size)
    have k2' := Lib.hid k2; clear k2 hb2 k1'
    obtain ⟨q1, q2⟩ := pair_eq (t1'.out.trans t3.symm) t2'.out t4
    obtain rfl := bs_eq q1
    subst q2
    clear t3 t4 q1 t1' t2'
    go_wp2_with fail
    refine (hX'.out _).mono ?_
    rintro e v3 ⟨b, er, rfl, u1, hb3⟩
    have k3 : Below w.heap.size w v3 := k2'.out.trans (hb3.mono k2'.out.size)
    have k3' := Lib.hid k3; clear k3 hb3 k2'
    have u1' := Lib.hid u1; clear u1
    go_wp2_with fail
    refine (hY'.out _).mono ?_
    rintro e v4 ⟨c, fr, rfl, u2, hb4⟩
    have k4 : Below w.heap.size w v4 := k3'.out.trans (hb4.mono k3'.out.size)
    have k4' := Lib.hid k4; clear k4 hb4 k3'
    obtain ⟨q1, q2⟩ := pre_same u1'.out u2
    obtain rfl := bs_eq q1
    subst q2
    clear u2 q1 u1'
    go_wp2_with fail
    refine (hK'.out _).mono ?_
    rintro e v5 ⟨rfl, hb5⟩
    have k5 : Below w.heap.size w v5 := k4'.out.trans (hb5.mono k4'.out.size)
    have k5' := Lib.hid k5; clear k5 hb5 k4'
    go_wp2_with fail
    go_ret
    exact ⟨rfl, k5'.out⟩
  · have i0 : (300 : Int) < (a0.size : Int) := by omega
    go_enter Try.func13, Try.ntmps13
    go_wp2_with fail
    refine (hK'.out _).mono ?_
    rintro e v1 ⟨rfl, hb1⟩
    have k1 : Below w.heap.size w v1 := hb1
    have k1' := Lib.hid k1; clear k1 hb1
    go_wp2_with fail
    go_ret
    exact ⟨rfl, k1'.out⟩

/-! ### THE ROW's STEP: WRITTEN OUT: LEAVE IT -/
set_option maxRecDepth 100000 in
theorem lifted (os : Os) (started : os.Started) (H : Type) (enc : TypeId × Value → H) :
    ReturnsInHanded {} Try.checked os 13 .any (Rows.globLiteralsSpec.pre6 enc Try.prog Try.f13 Rows.globLiteralsRow.domain false) (Rows.globLiteralsSpec.post enc Try.prog Try.f13 false true false false) := by
  refine returnsInHanded_of_change (C := Try.checked) own started (by kernel_rfl) Try.func13
    (ChangeSpec.witness6 (enc := enc) (C := Try.checked) false ⟨#[], #[.string ByteArray.empty], []⟩ 8 (by kernel_rfl) (by kernel_rfl) (by kernel_rfl) (by kernel_rfl)) ?_
  intro W base args ds gs before hval0 hW hcnd _
  have hval : ∀ (j : Nat) t v, Try.f13.params[j]? = some t → args[j]? = some v → Value.okWide Try.prog W .any base t v := hval0
  have hW' := hW
  obtain ⟨p, q, hA0, hV, rfl, hfz, hnd⟩ := hW
  have hA : DataW.TrodAll enc Try.prog W 0 (fun _ => true) true Try.f13.params.toList args.toList ds p := hA0
  rw [Try.params13] at hA hval
  obtain ⟨v0, vs0, d0, ds0, p0, q0, hargs, rfl, rfl, h0, r0⟩ := trodAll_cons hA
  obtain ⟨rfl, rfl, rfl⟩ := trodAll_nil r0
  obtain rfl : args = #[v0] := by cases args; simp_all
  obtain ⟨rfl, rfl⟩ := trodVars_none hV
  obtain ⟨a0, rfl, rfl, rfl, w0⟩ := open_string Try.underlying9 (hval 0 9 v0 rfl rfl) h0
  clear hA0 hval0
  simp only [List.append_nil] at hW'
  refine (walk a0 w0 W).mono fun e W' ⟨he, hg⟩ => ?_
  subst he
  exact ⟨_, rfl, post_texts hW' (fun _ _ _ => (trodAll_cons_mk (shut_bool Try.underlying4 _) trodAll_mk0)) (fun sp => (trodAll_cons_mk (shut_string Try.underlying9 w0) trodAll_mk0)) (fun _ => rfl)
    hg (ok_one (by kernel_rfl) rfl (okWide_bool_mk Try.underlying4 _))⟩

theorem over : Rows.globLiteralsRow.holds Try.pinned (OpenSpec.ofChange Rows.globLiteralsSpec) :=
  OpenClaim.holds_of_wide 13 Try.f13 rfl rfl rfl rfl rfl rfl rfl ⟨rfl, rfl, rfl, rfl, rfl⟩ rfl rfl rfl rfl rfl (by kernel_rfl) Try.func13 (by kernel_rfl)
    (of_decide_eq_true (by kernel_rfl)) (by unfold Func.isWrapper; first | (rw [if_pos (by decide +kernel)]; kernel_rfl) | (rw [if_neg (by decide +kernel)]; exact ⟨rfl, rfl⟩))
    (fun os started H enc _ => lifted os started H enc)

/-- ████ THE STATEMENT ████ -/
theorem proved : Rows.GlobLiteralsSaid :=
  over
#print axioms proved
end Go.Proofs.Ytgjnohkcnfdmkaa.globLiterals
