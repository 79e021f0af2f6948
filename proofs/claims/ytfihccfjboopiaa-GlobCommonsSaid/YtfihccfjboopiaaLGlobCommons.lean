/-
  The least common text of any two patterns, or that there is none, or the error (the law GlobCommons): proved for all inputs, without conditions.
-/
import Derived.Test.YtfihccfjboopiaaRows
import Derived.Test.YtfihccfjboopiaaKnown
import Derived.Test.YtfihccfjboopiaaShut
import Derived.Test.YtfihccfjboopiaaRefCommon
import Derived.Test.YtfihccfjboopiaaCommon
import Derived.WalkKit
import Derived.ProofKit
import Derived.OpenShut
import Derived.ShutString
namespace Go.Proofs.Ytfihccfjboopiaa.globCommons
open Go.ChangeShapes Go.WideShapes Go.ChangeAt Go.RowKit
open Go.ChangeMaps (open_string shut_string)
set_option linter.unusedVariables false      -- a walk need not use every 'w<i>' (that an integer argument fits its kind)

theorem own : ownKnob Try.prog.godebug = none := by kernel_rfl

/-! ### STEP 1: THE WALK: the Go text returns true. 'Grown w w'': the world has at most new blocks (Derived/RowKit3.lean). Part the cases AHEAD of 'go_enter' where a test parts the walk; take each callee by a contract of your own. -/
open Go.Proofs.Ytfihccfjboopiaa in
theorem toAns {p q s : ByteArray} {ok : Bool} {P Q : List (List G.El)} (hP : G.alts (bs p) = some P) (hQ : G.alts (bs q) = some Q) (h : G.IsCommon (G.matchS (bs p)) (G.matchS (bs q)) (if ok then some (bs s) else none)) : G.IsCommon (G.anyM P) (G.anyM Q) (if ok then some (bs s) else none) := by
  have e1 : G.matchS (bs p) = G.anyM P := funext fun t => G.matchS_anyM hP t
  have e2 : G.matchS (bs q) = G.anyM Q := funext fun t => G.matchS_anyM hQ t
  rw [e1, e2] at h
  exact h
open Go.Proofs.Ytfihccfjboopiaa in
theorem nilText {s : ByteArray} (h : bs s = []) : s = ⟨#[]⟩ := bs_eq h
open Go.Proofs.Ytfihccfjboopiaa in
set_option maxRecDepth 100000 in
set_option maxHeartbeats 2000000 in
theorem rcommon_any {p q : ByteArray} (hp : p.size ≤ 400) (hq : q.size ≤ 400) (h1 : errS (bs p) = 0 → p.size ≤ 16) (h2 : errS (bs q) = 0 → q.size ≤ 16) {s : ByteArray} {ok : Bool} {er : Int} (hc : ComIs (bs p) (bs q) (bs s) ok er) (w : World) :
    Calls Try.prog 25 #[.string p, .string q] w fun e w' => e = .returned (.tuple #[.string s, .bool ok, .int .i64 er]) ∧ Below w.heap.size w w' := by
  have hC1 := fun W => rcheck_any p W (by omega)
  have hC2 := fun W => rcheck_any q W (by omega)
  by_cases z0 : errS (bs p) = 0
  · by_cases z1 : errS (bs q) = 0
    · obtain ⟨P, hP⟩ := errS_zero z0
      obtain ⟨Q, hQ⟩ := errS_zero z1
      obtain ⟨rfl, hno, hcom⟩ := hc.2.2 z0 z1
      refine (rcommon_good (w := w) hP hQ (h1 z0) (h2 z1) (toAns hP hQ hcom)).mono ?_
      rintro e w' ⟨⟨s', ok', rfl, hr, hs'⟩, hb⟩
      refine ⟨?_, hb⟩
      cases ok with
      | true =>
        cases ok' with
        | true =>
          simp only [if_true, Option.some.injEq] at hr
          rw [bs_eq hr]
        | false => simp at hr
      | false =>
        cases ok' with
        | true => simp at hr
        | false => rw [hs' rfl, nilText (hno rfl)]
    · obtain ⟨hs, rfl, rfl⟩ := hc.2.1 z0 z1
      obtain rfl := nilText hs
      rw [z0] at hC1
      obtain ⟨e1, he1⟩ : ∃ z, errS (bs q) = z := ⟨_, rfl⟩
      rw [he1] at hC2 z1 ⊢
      have b1 : (e1 != 0) = true := by simpa using z1
      have hC1' := Lib.hid hC1; clear hC1
      have hC2' := Lib.hid hC2; clear hC2
      clear hc h1 h2 he1 z0 z1 hs
      go_enter Try.func25, Try.ntmps25
      go_wp2_with fail
      refine (hC1'.out _).mono ?_
      rintro e v1 ⟨rfl, hb1⟩
      go_wp2_with fail
      refine (hC2'.out _).mono ?_
      rintro e v2 ⟨rfl, hb2⟩
      go_wp2_with fail
      go_ret3
      exact ⟨rfl, hb1.trans (hb2.mono hb1.size)⟩
  · obtain ⟨hs, rfl, rfl⟩ := hc.1 z0
    obtain rfl := nilText hs
    obtain ⟨e1, he1⟩ : ∃ z, errS (bs p) = z := ⟨_, rfl⟩
    rw [he1] at hC1 z0 ⊢
    have b1 : (e1 != 0) = true := by simpa using z0
    have hC1' := Lib.hid hC1; clear hC1 hC2
    clear hc h1 h2 he1 z0 hs
    go_enter Try.func25, Try.ntmps25
    go_wp2_with fail
    refine (hC1'.out _).mono ?_
    rintro e v1 ⟨rfl, hb1⟩
    go_wp2_with fail
    go_ret3
    exact ⟨rfl, hb1⟩

open Go.Proofs.Ytfihccfjboopiaa in
set_option maxRecDepth 100000 in
set_option maxHeartbeats 4000000 in
theorem walk (a0 : ByteArray) (a1 : ByteArray) (w0 : a0.size ≤ maxLen) (w1 : a1.size ≤ maxLen) (w : World) :
    Calls Try.prog 7 #[.string a0, .string a1] w fun e w' => e = .returned (.bool true) ∧ Below w.heap.size w w' := by
  have hK := fun W => known_any W
  have hK' := Lib.hid hK; clear hK
  simp only [maxLen] at w0 w1
  have hE0 := fun W => check_any a0 W (by omega)
  have hE1 := fun W => check_any a1 W (by omega)
  have hC : a0.size ≤ 400 → a1.size ≤ 400 → ∀ W, Calls Try.prog 24 #[.string a0, .string a1] W (ComPost a0 a1 W) := fun h1 h2 W => common_any a0 a1 W (by omega) (by omega)
  obtain ⟨e0, he0⟩ : ∃ z, errS (bs a0) = z := ⟨_, rfl⟩
  obtain ⟨e1, he1⟩ : ∃ z, errS (bs a1) = z := ⟨_, rfl⟩
  rw [he0] at hE0
  rw [he1] at hE1
  have hE0' := Lib.hid hE0; clear hE0
  have hE1' := Lib.hid hE1; clear hE1
  have he0' := Lib.hid he0; clear he0
  have he1' := Lib.hid he1; clear he1
  by_cases s0 : a0.size ≤ 16
  · skip
    have i0 : ¬ (16 : Int) < (a0.size : Int) := by omega
    by_cases s1 : a1.size ≤ 16
    · skip
      have i1 : ¬ (16 : Int) < (a1.size : Int) := by omega
      have l0 : ¬ (400 : Int) < (a0.size : Int) := by omega
      have l1 : ¬ (400 : Int) < (a1.size : Int) := by omega
      have hz0 : Hid (errS (bs a0) = 0 → a0.size ≤ 16) := fun _ => s0
      have hz1 : Hid (errS (bs a1) = 0 → a1.size ≤ 16) := fun _ => s1
      have hC' := Lib.hid (hC (by omega) (by omega)); clear hC
      go_enter Try.func7, Try.ntmps7
      go_wp2_with fail
      refine (hC'.out _).mono ?_
      rintro e v1 ⟨t, ok, er, rfl, hb1, his, -⟩
      have k1 := Lib.hid hb1; clear hb1
      have hR := Lib.hid (rcommon_any (p := a0) (q := a1) (by omega) (by omega) hz0.out hz1.out his)
      clear his
      have eT : (t.toList == t.toList) = true := beq_self_eq_true _
      have eE : (er == er) = true := beq_self_eq_true _
      have eK : (ok == ok) = true := beq_self_eq_true _
      go_wp2_with fail
      refine (hR.out _).mono ?_
      rintro e v2 ⟨rfl, hb2⟩
      have k2 := Lib.hid (k1.out.trans (hb2.mono k1.out.size)); clear hb2 k1
      go_wp2_with fail
      refine (hK'.out _).mono ?_
      rintro e v3 ⟨rfl, hb3⟩
      have k3 := Lib.hid (k2.out.trans (hb3.mono k2.out.size)); clear hb3 k2
      go_wp2_with fail
      go_ret
      exact ⟨rfl, k3.out⟩
    · skip
      have i1 : (16 : Int) < (a1.size : Int) := by omega
      have l0 : ¬ (400 : Int) < (a0.size : Int) := by omega
      by_cases z1 : e1 = 0
      · subst z1
        go_enter Try.func7, Try.ntmps7
        go_wp2_with fail
        refine (hE1'.out _).mono ?_
        rintro e v1 ⟨rfl, hb1⟩
        have k1 := Lib.hid hb1; clear hb1
        go_wp2_with fail
        refine (hK'.out _).mono ?_
        rintro e v2 ⟨rfl, hb2⟩
        have k2 := Lib.hid (k1.out.trans (hb2.mono k1.out.size)); clear hb2 k1
        go_wp2_with fail
        go_ret
        exact ⟨rfl, k2.out⟩
      · skip
        have b1 : (e1 == 0) = false := beq_eq_false_iff_ne.2 z1
        by_cases m1 : a1.size ≤ 400
        · skip
          have l1 : ¬ (400 : Int) < (a1.size : Int) := by omega
          have hz0 : Hid (errS (bs a0) = 0 → a0.size ≤ 16) := fun _ => s0
          have hz1 : Hid (errS (bs a1) = 0 → a1.size ≤ 16) := fun h => absurd (he1'.out.symm.trans h) z1
          have hC' := Lib.hid (hC (by omega) (by omega)); clear hC
          go_enter Try.func7, Try.ntmps7
          go_wp2_with fail
          refine (hE1'.out _).mono ?_
          rintro e v1 ⟨rfl, hb1⟩
          have k1 := Lib.hid hb1; clear hb1
          go_wp2_with fail
          refine (hC'.out _).mono ?_
          rintro e v2 ⟨t, ok, er, rfl, hb2, his, -⟩
          have k2 := Lib.hid (k1.out.trans (hb2.mono k1.out.size)); clear hb2 k1
          have hR := Lib.hid (rcommon_any (p := a0) (q := a1) (by omega) (by omega) hz0.out hz1.out his)
          clear his
          have eT : (t.toList == t.toList) = true := beq_self_eq_true _
          have eE : (er == er) = true := beq_self_eq_true _
          have eK : (ok == ok) = true := beq_self_eq_true _
          go_wp2_with fail
          refine (hR.out _).mono ?_
          rintro e v3 ⟨rfl, hb3⟩
          have k3 := Lib.hid (k2.out.trans (hb3.mono k2.out.size)); clear hb3 k2
          go_wp2_with fail
          refine (hK'.out _).mono ?_
          rintro e v4 ⟨rfl, hb4⟩
          have k4 := Lib.hid (k3.out.trans (hb4.mono k3.out.size)); clear hb4 k3
          go_wp2_with fail
          go_ret
          exact ⟨rfl, k4.out⟩
        · skip
          have l1 : (400 : Int) < (a1.size : Int) := by omega
          go_enter Try.func7, Try.ntmps7
          go_wp2_with fail
          refine (hE1'.out _).mono ?_
          rintro e v1 ⟨rfl, hb1⟩
          have k1 := Lib.hid hb1; clear hb1
          go_wp2_with fail
          refine (hK'.out _).mono ?_
          rintro e v2 ⟨rfl, hb2⟩
          have k2 := Lib.hid (k1.out.trans (hb2.mono k1.out.size)); clear hb2 k1
          go_wp2_with fail
          go_ret
          exact ⟨rfl, k2.out⟩
  · skip
    have i0 : (16 : Int) < (a0.size : Int) := by omega
    by_cases z0 : e0 = 0
    · subst z0
      go_enter Try.func7, Try.ntmps7
      go_wp2_with fail
      refine (hE0'.out _).mono ?_
      rintro e v1 ⟨rfl, hb1⟩
      have k1 := Lib.hid hb1; clear hb1
      go_wp2_with fail
      refine (hK'.out _).mono ?_
      rintro e v2 ⟨rfl, hb2⟩
      have k2 := Lib.hid (k1.out.trans (hb2.mono k1.out.size)); clear hb2 k1
      go_wp2_with fail
      go_ret
      exact ⟨rfl, k2.out⟩
    · skip
      have b0 : (e0 == 0) = false := beq_eq_false_iff_ne.2 z0
      by_cases m0 : a0.size ≤ 400
      · skip
        have l0 : ¬ (400 : Int) < (a0.size : Int) := by omega
        by_cases s1 : a1.size ≤ 16
        · skip
          have i1 : ¬ (16 : Int) < (a1.size : Int) := by omega
          have l1 : ¬ (400 : Int) < (a1.size : Int) := by omega
          have hz0 : Hid (errS (bs a0) = 0 → a0.size ≤ 16) := fun h => absurd (he0'.out.symm.trans h) z0
          have hz1 : Hid (errS (bs a1) = 0 → a1.size ≤ 16) := fun _ => s1
          have hC' := Lib.hid (hC (by omega) (by omega)); clear hC
          go_enter Try.func7, Try.ntmps7
          go_wp2_with fail
          refine (hE0'.out _).mono ?_
          rintro e v1 ⟨rfl, hb1⟩
          have k1 := Lib.hid hb1; clear hb1
          go_wp2_with fail
          refine (hC'.out _).mono ?_
          rintro e v2 ⟨t, ok, er, rfl, hb2, his, -⟩
          have k2 := Lib.hid (k1.out.trans (hb2.mono k1.out.size)); clear hb2 k1
          have hR := Lib.hid (rcommon_any (p := a0) (q := a1) (by omega) (by omega) hz0.out hz1.out his)
          clear his
          have eT : (t.toList == t.toList) = true := beq_self_eq_true _
          have eE : (er == er) = true := beq_self_eq_true _
          have eK : (ok == ok) = true := beq_self_eq_true _
          go_wp2_with fail
          refine (hR.out _).mono ?_
          rintro e v3 ⟨rfl, hb3⟩
          have k3 := Lib.hid (k2.out.trans (hb3.mono k2.out.size)); clear hb3 k2
          go_wp2_with fail
          refine (hK'.out _).mono ?_
          rintro e v4 ⟨rfl, hb4⟩
          have k4 := Lib.hid (k3.out.trans (hb4.mono k3.out.size)); clear hb4 k3
          go_wp2_with fail
          go_ret
          exact ⟨rfl, k4.out⟩
        · skip
          have i1 : (16 : Int) < (a1.size : Int) := by omega
          by_cases z1 : e1 = 0
          · subst z1
            go_enter Try.func7, Try.ntmps7
            go_wp2_with fail
            refine (hE0'.out _).mono ?_
            rintro e v1 ⟨rfl, hb1⟩
            have k1 := Lib.hid hb1; clear hb1
            go_wp2_with fail
            refine (hE1'.out _).mono ?_
            rintro e v2 ⟨rfl, hb2⟩
            have k2 := Lib.hid (k1.out.trans (hb2.mono k1.out.size)); clear hb2 k1
            go_wp2_with fail
            refine (hK'.out _).mono ?_
            rintro e v3 ⟨rfl, hb3⟩
            have k3 := Lib.hid (k2.out.trans (hb3.mono k2.out.size)); clear hb3 k2
            go_wp2_with fail
            go_ret
            exact ⟨rfl, k3.out⟩
          · skip
            have b1 : (e1 == 0) = false := beq_eq_false_iff_ne.2 z1
            by_cases m1 : a1.size ≤ 400
            · skip
              have l1 : ¬ (400 : Int) < (a1.size : Int) := by omega
              have hz0 : Hid (errS (bs a0) = 0 → a0.size ≤ 16) := fun h => absurd (he0'.out.symm.trans h) z0
              have hz1 : Hid (errS (bs a1) = 0 → a1.size ≤ 16) := fun h => absurd (he1'.out.symm.trans h) z1
              have hC' := Lib.hid (hC (by omega) (by omega)); clear hC
              go_enter Try.func7, Try.ntmps7
              go_wp2_with fail
              refine (hE0'.out _).mono ?_
              rintro e v1 ⟨rfl, hb1⟩
              have k1 := Lib.hid hb1; clear hb1
              go_wp2_with fail
              refine (hE1'.out _).mono ?_
              rintro e v2 ⟨rfl, hb2⟩
              have k2 := Lib.hid (k1.out.trans (hb2.mono k1.out.size)); clear hb2 k1
              go_wp2_with fail
              refine (hC'.out _).mono ?_
              rintro e v3 ⟨t, ok, er, rfl, hb3, his, -⟩
              have k3 := Lib.hid (k2.out.trans (hb3.mono k2.out.size)); clear hb3 k2
              have hR := Lib.hid (rcommon_any (p := a0) (q := a1) (by omega) (by omega) hz0.out hz1.out his)
              clear his
              have eT : (t.toList == t.toList) = true := beq_self_eq_true _
              have eE : (er == er) = true := beq_self_eq_true _
              have eK : (ok == ok) = true := beq_self_eq_true _
              go_wp2_with fail
              refine (hR.out _).mono ?_
              rintro e v4 ⟨rfl, hb4⟩
              have k4 := Lib.hid (k3.out.trans (hb4.mono k3.out.size)); clear hb4 k3
              go_wp2_with fail
              refine (hK'.out _).mono ?_
              rintro e v5 ⟨rfl, hb5⟩
              have k5 := Lib.hid (k4.out.trans (hb5.mono k4.out.size)); clear hb5 k4
              go_wp2_with fail
              go_ret
              exact ⟨rfl, k5.out⟩
            · skip
              have l1 : (400 : Int) < (a1.size : Int) := by omega
              go_enter Try.func7, Try.ntmps7
              go_wp2_with fail
              refine (hE0'.out _).mono ?_
              rintro e v1 ⟨rfl, hb1⟩
              have k1 := Lib.hid hb1; clear hb1
              go_wp2_with fail
              refine (hE1'.out _).mono ?_
              rintro e v2 ⟨rfl, hb2⟩
              have k2 := Lib.hid (k1.out.trans (hb2.mono k1.out.size)); clear hb2 k1
              go_wp2_with fail
              refine (hK'.out _).mono ?_
              rintro e v3 ⟨rfl, hb3⟩
              have k3 := Lib.hid (k2.out.trans (hb3.mono k2.out.size)); clear hb3 k2
              go_wp2_with fail
              go_ret
              exact ⟨rfl, k3.out⟩
      · skip
        have l0 : (400 : Int) < (a0.size : Int) := by omega
        by_cases s1 : a1.size ≤ 16
        · skip
          have i1 : ¬ (16 : Int) < (a1.size : Int) := by omega
          go_enter Try.func7, Try.ntmps7
          go_wp2_with fail
          refine (hE0'.out _).mono ?_
          rintro e v1 ⟨rfl, hb1⟩
          have k1 := Lib.hid hb1; clear hb1
          go_wp2_with fail
          refine (hK'.out _).mono ?_
          rintro e v2 ⟨rfl, hb2⟩
          have k2 := Lib.hid (k1.out.trans (hb2.mono k1.out.size)); clear hb2 k1
          go_wp2_with fail
          go_ret
          exact ⟨rfl, k2.out⟩
        · skip
          have i1 : (16 : Int) < (a1.size : Int) := by omega
          by_cases z1 : e1 = 0
          · subst z1
            go_enter Try.func7, Try.ntmps7
            go_wp2_with fail
            refine (hE0'.out _).mono ?_
            rintro e v1 ⟨rfl, hb1⟩
            have k1 := Lib.hid hb1; clear hb1
            go_wp2_with fail
            refine (hE1'.out _).mono ?_
            rintro e v2 ⟨rfl, hb2⟩
            have k2 := Lib.hid (k1.out.trans (hb2.mono k1.out.size)); clear hb2 k1
            go_wp2_with fail
            refine (hK'.out _).mono ?_
            rintro e v3 ⟨rfl, hb3⟩
            have k3 := Lib.hid (k2.out.trans (hb3.mono k2.out.size)); clear hb3 k2
            go_wp2_with fail
            go_ret
            exact ⟨rfl, k3.out⟩
          · skip
            have b1 : (e1 == 0) = false := beq_eq_false_iff_ne.2 z1
            go_enter Try.func7, Try.ntmps7
            go_wp2_with fail
            refine (hE0'.out _).mono ?_
            rintro e v1 ⟨rfl, hb1⟩
            have k1 := Lib.hid hb1; clear hb1
            go_wp2_with fail
            refine (hE1'.out _).mono ?_
            rintro e v2 ⟨rfl, hb2⟩
            have k2 := Lib.hid (k1.out.trans (hb2.mono k1.out.size)); clear hb2 k1
            go_wp2_with fail
            refine (hK'.out _).mono ?_
            rintro e v3 ⟨rfl, hb3⟩
            have k3 := Lib.hid (k2.out.trans (hb3.mono k2.out.size)); clear hb3 k2
            go_wp2_with fail
            go_ret
            exact ⟨rfl, k3.out⟩

/-! ### THE ROW's STEP: WRITTEN OUT: LEAVE IT -/
set_option maxRecDepth 100000 in
theorem lifted (os : Os) (started : os.Started) (H : Type) (enc : TypeId × Value → H) :
    ReturnsInHanded {} Try.checked os 7 .any (Rows.globCommonsSpec.pre6 enc Try.prog Try.f7 Rows.globCommonsRow.domain false) (Rows.globCommonsSpec.post enc Try.prog Try.f7 false true false false) := by
  refine returnsInHanded_of_change (C := Try.checked) own started (by kernel_rfl) Try.func7
    (ChangeSpec.witness6 (enc := enc) (C := Try.checked) false ⟨#[], #[.string ByteArray.empty, .string ByteArray.empty], []⟩ 8 (by kernel_rfl) (by kernel_rfl) (by kernel_rfl) (by kernel_rfl)) ?_
  intro W base args ds gs before hval0 hW hcnd _
  have hval : ∀ (j : Nat) t v, Try.f7.params[j]? = some t → args[j]? = some v → Value.okWide Try.prog W .any base t v := hval0
  have hW' := hW
  obtain ⟨p, q, hA0, hV, rfl, hfz, hnd⟩ := hW
  have hA : DataW.TrodAll enc Try.prog W 0 (fun _ => true) true Try.f7.params.toList args.toList ds p := hA0
  rw [Try.params7] at hA hval
  obtain ⟨v0, vs0, d0, ds0, p0, q0, hargs, rfl, rfl, h0, r0⟩ := trodAll_cons hA
  obtain ⟨v1, vs1, d1, ds1, p1, q1, rfl, rfl, rfl, h1, r1⟩ := trodAll_cons r0
  obtain ⟨rfl, rfl, rfl⟩ := trodAll_nil r1
  obtain rfl : args = #[v0, v1] := by cases args; simp_all
  obtain ⟨rfl, rfl⟩ := trodVars_none hV
  obtain ⟨a0, rfl, rfl, rfl, w0⟩ := open_string Try.underlying9 (hval 0 9 v0 rfl rfl) h0
  obtain ⟨a1, rfl, rfl, rfl, w1⟩ := open_string Try.underlying9 (hval 1 9 v1 rfl rfl) h1
  clear hA0 hval0
  simp only [List.append_nil] at hW'
  refine (walk a0 a1 w0 w1 W).mono fun e W' ⟨he, hg⟩ => ?_
  subst he
  exact ⟨_, rfl, post_texts hW' (fun _ _ _ => (trodAll_cons_mk (shut_bool Try.underlying4 _) trodAll_mk0)) (fun sp => (trodAll_cons_mk (shut_string Try.underlying9 w0) (trodAll_cons_mk (shut_string Try.underlying9 w1) trodAll_mk0))) (fun _ => rfl)
    hg (ok_one (by kernel_rfl) rfl (okWide_bool_mk Try.underlying4 _))⟩

theorem over : Rows.globCommonsRow.holds Try.pinned (OpenSpec.ofChange Rows.globCommonsSpec) :=
  OpenClaim.holds_of_wide 7 Try.f7 rfl rfl rfl rfl rfl rfl rfl ⟨rfl, rfl, rfl, rfl, rfl⟩ rfl rfl rfl rfl rfl (by kernel_rfl) Try.func7 (by kernel_rfl)
    (of_decide_eq_true (by kernel_rfl)) (by unfold Func.isWrapper; first | (rw [if_pos (by decide +kernel)]; kernel_rfl) | (rw [if_neg (by decide +kernel)]; exact ⟨rfl, rfl⟩))
    (fun os started H enc _ => lifted os started H enc)

/-- ████ THE STATEMENT ████ -/
theorem proved : Rows.GlobCommonsSaid :=
  over
#print axioms proved
end Go.Proofs.Ytfihccfjboopiaa.globCommons
