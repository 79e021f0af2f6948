/-
  Every text that a pattern matches begins with its prefix, and the literal of a pattern is matched by it alone (the law GlobBegins): proved for all inputs, without conditions.
-/
import Derived.Test.YtgjnohkcnfdmkaaRows
import Derived.Test.YtgjnohkcnfdmkaaKnown
import Derived.Test.YtgjnohkcnfdmkaaShut
import Derived.Test.YtgjnohkcnfdmkaaLiteral
import Derived.Test.YtgjnohkcnfdmkaaHasPre
import Derived.WalkKit
import Derived.ProofKit
import Derived.OpenShut
import Derived.ShutString
namespace Go.Proofs.Ytgjnohkcnfdmkaa.globBegins
open Go.ChangeShapes Go.WideShapes Go.ChangeAt Go.RowKit
open Go.ChangeMaps (open_string shut_string)
set_option linter.unusedVariables false      -- a walk need not use every 'w<i>' (that an integer argument fits its kind)

theorem own : ownKnob Try.prog.godebug = none := by kernel_rfl

/-! ### STEP 1: THE WALK: the Go text returns true. 'Grown w w'': the world has at most new blocks (Derived/RowKit3.lean). Part the cases AHEAD of 'go_enter' where a test parts the walk; take each callee by a contract of your own. -/
open Go.Proofs.Ytgjnohkcnfdmkaa in
set_option maxHeartbeats 2000000 in
theorem walk (a0 : ByteArray) (a1 : ByteArray) (w0 : a0.size ≤ maxLen) (w1 : a1.size ≤ maxLen) (w : World) :
    Calls Try.prog 14 #[.string a0, .string a1] w fun e w' => e = .returned (.bool true) ∧ Below w.heap.size w w' := by
  have hK := fun W => known_any W
  have hK' := Lib.hid hK; clear hK
  by_cases s0 : a0.size ≤ 200
  · by_cases s1 : a1.size ≤ 200
    · have i0 : ¬ (200 : Int) < (a0.size : Int) := by omega
      have i1 : ¬ (200 : Int) < (a1.size : Int) := by omega
      have hX := fun W => prefix_any a0 W (by omega)
      have hL := fun W => literal_any a0 W (by omega)
      have hM := fun W => match_any a0 a1 W (by omega) (by omega)
      have hX' := Lib.hid hX; clear hX
      have hL' := Lib.hid hL; clear hL
      have hM' := Lib.hid hM; clear hM
      go_enter Try.func14, Try.ntmps14
      go_wp2_with fail
      refine (hK'.out _).mono ?_
      rintro e v1 ⟨rfl, hb1⟩
      have k1' := Lib.hid hb1; clear hb1
      go_wp2_with fail
      refine (hX'.out _).mono ?_
      rintro e v2 ⟨b, er, rfl, hpre, hb2⟩
      have k2 : Below w.heap.size w v2 := k1'.out.trans (hb2.mono k1'.out.size)
      have k2' := Lib.hid k2; clear k2 hb2 k1'
      have hpre' := Lib.hid hpre; clear hpre
      go_wp2_with fail
      refine (hL'.out _).mono ?_
      rintro e v3 ⟨l, ok, rfl, hlit, _, hb3⟩
      have k3 : Below w.heap.size w v3 := k2'.out.trans (hb3.mono k2'.out.size)
      have k3' := Lib.hid k3; clear k3 hb3 k2'
      have hlit' := Lib.hid hlit; clear hlit
      go_wp2_with fail
      refine (hM'.out _).mono ?_
      rintro e v4 ⟨rfl, hb4⟩
      have k4 : Below w.heap.size w v4 := k3'.out.trans (hb4.mono k3'.out.size)
      have k4' := Lib.hid k4; clear k4 hb4 k3'
      have hokl : ok = true → (G.matchS (bs a0) (bs a1) = true ↔ a1 = l) ∧ b = l := fun h => by
        have h2 := hlit'.out
        rw [h] at h2
        obtain ⟨h3, L, hL1, hL2⟩ := G.match_lit (s := bs a1) (t := bs l) h2.symm
        exact ⟨⟨fun h => bs_eq (h3.1 h), fun h => h3.2 (by rw [h])⟩, bs_eq ((hpre'.out.2.2 L hL1).trans hL2)⟩
      have hmat : G.matchS (bs a0) (bs a1) = true → er = 0 ∧ bs b <+: bs a1 := fun h => by
        cases hal : G.alts (bs a0) with
        | none => unfold G.matchS at h; rw [hal] at h; cases h
        | some L => exact ⟨hpre'.out.1.trans (errS_some hal), by rw [hpre'.out.2.2 L hal]; exact G.match_pre hal h⟩
      clear hpre' hlit'
      generalize G.matchS (bs a0) (bs a1) = m at *
      cases m with
      | false =>
        clear hmat
        cases ok with
        | false =>
          clear hokl
          go_wp2_with fail
          go_ret
          exact ⟨rfl, k4'.out⟩
        | true =>
          obtain ⟨h1, rfl⟩ := hokl rfl
          have hne : ¬ a1 = b := fun h => by have := h1.2 h; cases this
          have hne2 : (a1.toList == b.toList) = false := by
            rw [beq_eq_false_iff_ne]
            intro h
            rw [ByteArray.toList_eq, ByteArray.toList_eq] at h
            exact hne (by cases a1; cases b; simp only [ByteArray.mk.injEq]; exact Array.toList_inj.1 h)
          clear h1
          go_wp2_with fail
          go_ret
          exact ⟨rfl, k4'.out⟩
      | true =>
        obtain ⟨rfl, hp⟩ := hmat rfl
        have hH := fun W => hasPre_any a1 b W hp (by omega)
        have hH' := Lib.hid hH; clear hH hp
        cases ok with
        | false =>
          clear hokl
          go_wp2_with fail
          refine (hH'.out _).mono ?_
          rintro e v5 ⟨rfl, rfl⟩
          go_wp2_with fail
          go_ret
          exact ⟨rfl, k4'.out⟩
        | true =>
          obtain ⟨h1, rfl⟩ := hokl rfl
          obtain rfl : a1 = b := h1.1 rfl
          clear h1
          go_wp2_with fail
          refine (hH'.out _).mono ?_
          rintro e v5 ⟨rfl, rfl⟩
          go_wp2_with fail
          go_ret
          exact ⟨rfl, k4'.out⟩
    · have i0 : ¬ (200 : Int) < (a0.size : Int) := by omega
      have i1 : (200 : Int) < (a1.size : Int) := by omega
      go_enter Try.func14, Try.ntmps14
      go_wp2_with fail
      refine (hK'.out _).mono ?_
      rintro e v1 ⟨rfl, hb1⟩
      have k1 : Below w.heap.size w v1 := hb1
      have k1' := Lib.hid k1; clear k1 hb1
      go_wp2_with fail
      go_ret
      exact ⟨rfl, k1'.out⟩
  · have i0 : (200 : Int) < (a0.size : Int) := by omega
    go_enter Try.func14, Try.ntmps14
    go_wp2_with fail
    refine (hK'.out _).mono ?_
    rintro e v1 ⟨rfl, hb1⟩
    have k1 : Below w.heap.size w v1 := hb1
    have k1' := Lib.hid k1; clear k1 hb1
    go_wp2_with fail
    go_ret
    exact ⟨rfl, k1'.out⟩

/-! ### THE ROW's STEP: WRITTEN OUT: LEAVE IT -/
set_option maxRecDepth 100000 in
theorem lifted (os : Os) (started : os.Started) (H : Type) (enc : TypeId × Value → H) :
    ReturnsInHanded {} Try.checked os 14 .any (Rows.globBeginsSpec.pre6 enc Try.prog Try.f14 Rows.globBeginsRow.domain false) (Rows.globBeginsSpec.post enc Try.prog Try.f14 false true false false) := by
  refine returnsInHanded_of_change (C := Try.checked) own started (by kernel_rfl) Try.func14
    (ChangeSpec.witness6 (enc := enc) (C := Try.checked) false ⟨#[], #[.string ByteArray.empty, .string ByteArray.empty], []⟩ 8 (by kernel_rfl) (by kernel_rfl) (by kernel_rfl) (by kernel_rfl)) ?_
  intro W base args ds gs before hval0 hW hcnd _
  have hval : ∀ (j : Nat) t v, Try.f14.params[j]? = some t → args[j]? = some v → Value.okWide Try.prog W .any base t v := hval0
  have hW' := hW
  obtain ⟨p, q, hA0, hV, rfl, hfz, hnd⟩ := hW
  have hA : DataW.TrodAll enc Try.prog W 0 (fun _ => true) true Try.f14.params.toList args.toList ds p := hA0
  rw [Try.params14] at hA hval
  obtain ⟨v0, vs0, d0, ds0, p0, q0, hargs, rfl, rfl, h0, r0⟩ := trodAll_cons hA
  obtain ⟨v1, vs1, d1, ds1, p1, q1, rfl, rfl, rfl, h1, r1⟩ := trodAll_cons r0
  obtain ⟨rfl, rfl, rfl⟩ := trodAll_nil r1
  obtain rfl : args = #[v0, v1] := by cases args; simp_all
  obtain ⟨rfl, rfl⟩ := trodVars_none hV
  obtain ⟨a0, rfl, rfl, rfl, w0⟩ := open_string Try.underlying9 (hval 0 9 v0 rfl rfl) h0
  obtain ⟨a1, rfl, rfl, rfl, w1⟩ := open_string Try.underlying9 (hval 1 9 v1 rfl rfl) h1
  clear hA0 hval0
  simp only [List.append_nil] at hW'
  refine (walk a0 a1 w0 w1 W).mono fun e W' ⟨he, hg⟩ => ?_
  subst he
  exact ⟨_, rfl, post_texts hW' (fun _ _ _ => (trodAll_cons_mk (shut_bool Try.underlying4 _) trodAll_mk0)) (fun sp => (trodAll_cons_mk (shut_string Try.underlying9 w0) (trodAll_cons_mk (shut_string Try.underlying9 w1) trodAll_mk0))) (fun _ => rfl)
    hg (ok_one (by kernel_rfl) rfl (okWide_bool_mk Try.underlying4 _))⟩

theorem over : Rows.globBeginsRow.holds Try.pinned (OpenSpec.ofChange Rows.globBeginsSpec) :=
  OpenClaim.holds_of_wide 14 Try.f14 rfl rfl rfl rfl rfl rfl rfl ⟨rfl, rfl, rfl, rfl, rfl⟩ rfl rfl rfl rfl rfl (by kernel_rfl) Try.func14 (by kernel_rfl)
    (of_decide_eq_true (by kernel_rfl)) (by unfold Func.isWrapper; first | (rw [if_pos (by decide +kernel)]; kernel_rfl) | (rw [if_neg (by decide +kernel)]; exact ⟨rfl, rfl⟩))
    (fun os started H enc _ => lifted os started H enc)

/-- ████ THE STATEMENT ████ -/
theorem proved : Rows.GlobBeginsSaid :=
  over
#print axioms proved
end Go.Proofs.Ytgjnohkcnfdmkaa.globBegins
