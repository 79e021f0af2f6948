/-
  Two patterns of one alternative each, one behind the other, match exactly the texts that consist of a text of each (the law GlobJoins): proved for all inputs, without conditions.
-/
import Derived.Test.YtgjnohkcnfdmkaaRows
import Derived.Test.YtgjnohkcnfdmkaaKnown
import Derived.Test.YtgjnohkcnfdmkaaShut
import Derived.Test.YtgjnohkcnfdmkaaGlobJoin
import Derived.Test.YtgjnohkcnfdmkaaHasByte
import Derived.WalkKit
import Derived.ProofKit
import Derived.OpenShut
import Derived.ShutString
namespace Go.Proofs.Ytgjnohkcnfdmkaa.globJoins
open Go.ChangeShapes Go.WideShapes Go.ChangeAt Go.RowKit
open Go.ChangeMaps (open_string shut_string)
set_option linter.unusedVariables false      -- a walk need not use every 'w<i>' (that an integer argument fits its kind)

theorem own : ownKnob Try.prog.godebug = none := by kernel_rfl

/-! ### STEP 1: THE WALK: the Go text returns true. 'Grown w w'': the world has at most new blocks (Derived/RowKit3.lean). Part the cases AHEAD of 'go_enter' where a test parts the walk; take each callee by a contract of your own. -/
open Go.Proofs.Ytgjnohkcnfdmkaa in
/-- Whether the text parts at a place before i into a text of each. -/
def anyTo (P Q : List Nat) (s : List Nat) (i : Nat) : Bool := (List.range i).any fun j => G.matchS P (s.take j) && G.matchS Q (s.drop j)
theorem anyTo_more (P Q s : List Nat) (i : Nat) : anyTo P Q s (i + 1) = (anyTo P Q s i || (G.matchS P (s.take i) && G.matchS Q (s.drop i))) := by
  unfold anyTo
  rw [List.range_succ, List.any_append]
  simp
theorem anyTo_all {P Q s : List Nat} (hp : (G.alts P).isSome = true) (hq : (G.alts Q).isSome = true) (hl : P.length + Q.length ≤ 256) (h : hasB (P ++ Q) 124 = false) : G.matchS (P ++ Q) s = anyTo P Q s (s.length + 1) := by
  have hno : ∀ c, c ∈ P ++ Q → c ≠ 124 := fun c hc e => by
    unfold hasB at h
    rw [List.any_eq_false] at h
    exact h c hc (by rw [e]; rfl)
  rw [Bool.eq_iff_iff, G.match_and hp hq hl (fun c hc => hno c (List.mem_append_left _ hc)) (fun c hc => hno c (List.mem_append_right _ hc))]
  unfold anyTo
  rw [List.any_eq_true]
  constructor
  · rintro ⟨i, hi, h1, h2⟩
    exact ⟨i, List.mem_range.2 (by omega), by rw [h1, h2]; rfl⟩
  · rintro ⟨i, hi, h1⟩
    rw [Bool.and_eq_true] at h1
    exact ⟨i, by have := List.mem_range.1 hi; omega, h1.1, h1.2⟩

open Go.Proofs.Ytgjnohkcnfdmkaa in
set_option maxHeartbeats 2000000 in
theorem walk (a0 : ByteArray) (a1 : ByteArray) (a2 : ByteArray) (w0 : a0.size ≤ maxLen) (w1 : a1.size ≤ maxLen) (w2 : a2.size ≤ maxLen) (w : World) :
    Calls Try.prog 15 #[.string a0, .string a1, .string a2] w fun e w' => e = .returned (.bool true) ∧ Below w.heap.size w w' := by
  have hK := fun W => known_any W
  have hK' := Lib.hid hK; clear hK
  by_cases s0 : a0.size ≤ 40
  · by_cases s1 : a1.size ≤ 40
    · by_cases s2 : a2.size ≤ 40
      · have i0 : ¬ (40 : Int) < (a0.size : Int) := by omega
        have i1 : ¬ (40 : Int) < (a1.size : Int) := by omega
        have i2 : ¬ (40 : Int) < (a2.size : Int) := by omega
        have hN := fun W => contains_any (a0 ++ a1) 124 W
        have hcat : bs (a0 ++ a1) = bs a0 ++ bs a1 := by simp [bs]
        rw [hcat] at hN
        have hC0 := fun W => check_any a0 W (by omega)
        have hC1 := fun W => check_any a1 W (by omega)
        have h0 : errS (bs a0) = 0 → (G.alts (bs a0)).isSome = true := fun h => by obtain ⟨l, hl⟩ := errS_zero h; rw [hl]; rfl
        have h1 : errS (bs a1) = 0 → (G.alts (bs a1)).isSome = true := fun h => by obtain ⟨l, hl⟩ := errS_zero h; rw [hl]; rfl
        obtain ⟨e0, he0⟩ : ∃ z, z = errS (bs a0) := ⟨_, rfl⟩
        obtain ⟨e1, he1⟩ : ∃ z, z = errS (bs a1) := ⟨_, rfl⟩
        rw [← he0] at hC0 h0
        rw [← he1] at hC1 h1
        obtain ⟨nb, hnb⟩ : ∃ z, z = hasB (bs a0 ++ bs a1) 124 := ⟨_, rfl⟩
        have e124 : (124 : UInt8).toNat = 124 := rfl
        rw [e124, ← hnb] at hN
        have hN' := Lib.hid hN; clear hN e124
        have hC0' := Lib.hid hC0; clear hC0
        have hC1' := Lib.hid hC1; clear hC1
        clear he0 he1
        cases nb with
        | true =>
          clear h0 h1 hnb hcat
          go_enter Try.func15, Try.ntmps15
          go_wp2_with fail
          refine (hN'.out _).mono ?_
          rintro e v1 ⟨rfl, hb1⟩
          have k1 : Below w.heap.size w v1 := hb1
          have k1' := Lib.hid k1; clear k1 hb1
          go_wp2_with fail
          refine (hK'.out _).mono ?_
          rintro e v2 ⟨rfl, hb2⟩
          have k2 : Below w.heap.size w v2 := k1'.out.trans (hb2.mono k1'.out.size)
          have k2' := Lib.hid k2; clear k2 hb2 k1'
          go_wp2_with fail
          go_ret
          exact ⟨rfl, k2'.out⟩
        | false =>
          by_cases c0 : e0 = 0
          · by_cases c1 : e1 = 0
            · subst c0
              subst c1
              have hA : ∀ W, Calls Try.prog 21 #[.string (a0 ++ a1), .string a2] W fun e w' => e = .returned (.bool (anyTo (bs a0) (bs a1) (bs a2) (a2.size + 1))) ∧ Below W.heap.size W w' := fun W => by
                have hm := anyTo_all (s := bs a2) (h0 rfl) (h1 rfl) (by rw [length_bs, length_bs]; omega) hnb.symm
                rw [length_bs] at hm
                rw [← hm, ← hcat]
                exact match_any (a0 ++ a1) a2 W (by rw [ByteArray.size_append]; omega) (by omega)
              have hM0 := fun W j => match_any a0 (a2.extract 0 j) W (by omega) (by simp; omega)
              have hM1 := fun W j => match_any a1 (a2.extract j a2.size) W (by omega) (by simp; omega)
              have hM0' := Lib.hid hM0; clear hM0
              have hM1' := Lib.hid hM1; clear hM1
              have hA' := Lib.hid hA; clear hA hcat h0 h1 hnb
              go_enter Try.func15, Try.ntmps15
              go_wp2_with fail
              refine (hN'.out _).mono ?_
              rintro e v1 ⟨rfl, hb1⟩
              have k1' := Lib.hid hb1; clear hb1
              go_wp2_with fail
              refine (hC0'.out _).mono ?_
              rintro e v2 ⟨rfl, hb2⟩
              have k2 : Below w.heap.size w v2 := k1'.out.trans (hb2.mono k1'.out.size)
              have k2' := Lib.hid k2; clear k2 hb2 k1'
              go_wp2_with fail
              refine (hC1'.out _).mono ?_
              rintro e v3 ⟨rfl, hb3⟩
              have k3 : Below w.heap.size w v3 := k2'.out.trans (hb3.mono k2'.out.size)
              have k3' := Lib.hid k3; clear k3 hb3 k2'
              go_wp2_with fail
              go_loopw [7, 8] (fun t7 t8 wr => ∃ i : Nat, i ≤ a2.size + 1 ∧ t8 = .int .i64 i ∧ t7 = .bool (anyTo (bs a0) (bs a1) (bs a2) i) ∧ Below w.heap.size w wr) (fun _ t8 _ => a2.size + 1 - (intOf t8).toNat)
              case atStart => exact ⟨0, by omega, rfl, rfl, k3'.out⟩
              case round =>
                obtain ⟨i, hi, rfl, rfl, hb⟩ := hrel
                clear k3'
                have hb' := Lib.hid hb; clear hb
                by_cases hlt : i ≤ a2.size
                · have j1 : (i : Int) ≤ (a2.size : Int) := by omega
                  have j2 : (0 : Int) ≤ (i : Int) := by omega
                  have hmore := anyTo_more (bs a0) (bs a1) (bs a2) i
                  have q0 := hM0'.out
                  have q1 := hM1'.out
                  have hM0i := fun W => q0 W i
                  have hM1i := fun W => q1 W i
                  clear q0 q1
                  rw [bs_take] at hM0i
                  rw [bs_extract] at hM1i
                  generalize G.matchS (bs a0) ((bs a2).take i) = m0 at *
                  generalize G.matchS (bs a1) ((bs a2).drop i) = m1 at *
                  generalize anyTo (bs a0) (bs a1) (bs a2) i = b at *
                  have hmore' := Lib.hid hmore; clear hmore
                  have hM0i' := Lib.hid hM0i; clear hM0i
                  have hM1i' := Lib.hid hM1i; clear hM1i
                  cases b with
                  | true =>
                    go_wp2_with fail
                    go_roundw
                    case rel => exact ⟨i + 1, by omega, by go_num, by rw [hmore'.out]; rfl, hb'.out⟩
                    case measure => simp [intOf]; omega
                  | false =>
                    go_wp2_with fail
                    refine (hM0i'.out _).mono ?_
                    rintro e v4 ⟨rfl, hb4⟩
                    have k4 : Below w.heap.size w v4 := hb'.out.trans (hb4.mono hb'.out.size)
                    have k4' := Lib.hid k4; clear k4 hb4 hb'
                    cases m0 with
                    | false =>
                      go_wp2_with fail
                      go_roundw
                      case rel => exact ⟨i + 1, by omega, by go_num, by rw [hmore'.out]; rfl, k4'.out⟩
                      case measure => simp [intOf]; omega
                    | true =>
                      go_wp2_with fail
                      refine (hM1i'.out _).mono ?_
                      rintro e v5 ⟨rfl, hb5⟩
                      have k5 : Below w.heap.size w v5 := k4'.out.trans (hb5.mono k4'.out.size)
                      have k5' := Lib.hid k5; clear k5 hb5 k4'
                      go_wp2_with fail
                      go_roundw
                      case rel => exact ⟨i + 1, by omega, by go_num, by rw [hmore'.out]; rfl, k5'.out⟩
                      case measure => simp [intOf]; omega
                · obtain rfl : i = a2.size + 1 := by omega
                  generalize anyTo (bs a0) (bs a1) (bs a2) (a2.size + 1) = b at *
                  go_wp2_with fail
                  refine (hA'.out _).mono ?_
                  rintro e v4 ⟨rfl, hb4⟩
                  have k4 : Below w.heap.size w v4 := hb'.out.trans (hb4.mono hb'.out.size)
                  have k4' := Lib.hid k4; clear k4 hb4 hb'
                  cases b with
                  | true =>
                    go_wp2_with fail
                    refine (hK'.out _).mono ?_
                    rintro e v5 ⟨rfl, hb5⟩
                    have k5 : Below w.heap.size w v5 := k4'.out.trans (hb5.mono k4'.out.size)
                    have k5' := Lib.hid k5; clear k5 hb5 k4'
                    go_wp2_with fail
                    go_ret
                    exact ⟨rfl, k5'.out⟩
                  | false =>
                    go_wp2_with fail
                    refine (hK'.out _).mono ?_
                    rintro e v5 ⟨rfl, hb5⟩
                    have k5 : Below w.heap.size w v5 := k4'.out.trans (hb5.mono k4'.out.size)
                    have k5' := Lib.hid k5; clear k5 hb5 k4'
                    go_wp2_with fail
                    go_ret
                    exact ⟨rfl, k5'.out⟩
            · have c1' : (e1 != 0) = true := by simpa using c1
              subst c0
              clear h0 h1 hnb hcat
              go_enter Try.func15, Try.ntmps15
              go_wp2_with fail
              refine (hN'.out _).mono ?_
              rintro e v1 ⟨rfl, hb1⟩
              have k1 : Below w.heap.size w v1 := hb1
              have k1' := Lib.hid k1; clear k1 hb1
              go_wp2_with fail
              refine (hC0'.out _).mono ?_
              rintro e v2 ⟨rfl, hb2⟩
              have k2 : Below w.heap.size w v2 := k1'.out.trans (hb2.mono k1'.out.size)
              have k2' := Lib.hid k2; clear k2 hb2 k1'
              go_wp2_with fail
              refine (hC1'.out _).mono ?_
              rintro e v3 ⟨rfl, hb3⟩
              have k3 : Below w.heap.size w v3 := k2'.out.trans (hb3.mono k2'.out.size)
              have k3' := Lib.hid k3; clear k3 hb3 k2'
              go_wp2_with fail
              refine (hK'.out _).mono ?_
              rintro e v4 ⟨rfl, hb4⟩
              have k4 : Below w.heap.size w v4 := k3'.out.trans (hb4.mono k3'.out.size)
              have k4' := Lib.hid k4; clear k4 hb4 k3'
              go_wp2_with fail
              go_ret
              exact ⟨rfl, k4'.out⟩
          · have c0' : (e0 != 0) = true := by simpa using c0
            clear h0 h1 hnb hcat
            go_enter Try.func15, Try.ntmps15
            go_wp2_with fail
            refine (hN'.out _).mono ?_
            rintro e v1 ⟨rfl, hb1⟩
            have k1 : Below w.heap.size w v1 := hb1
            have k1' := Lib.hid k1; clear k1 hb1
            go_wp2_with fail
            refine (hC0'.out _).mono ?_
            rintro e v2 ⟨rfl, hb2⟩
            have k2 : Below w.heap.size w v2 := k1'.out.trans (hb2.mono k1'.out.size)
            have k2' := Lib.hid k2; clear k2 hb2 k1'
            go_wp2_with fail
            refine (hK'.out _).mono ?_
            rintro e v3 ⟨rfl, hb3⟩
            have k3 : Below w.heap.size w v3 := k2'.out.trans (hb3.mono k2'.out.size)
            have k3' := Lib.hid k3; clear k3 hb3 k2'
            go_wp2_with fail
            go_ret
            exact ⟨rfl, k3'.out⟩
      · have i0 : ¬ (40 : Int) < (a0.size : Int) := by omega
        have i1 : ¬ (40 : Int) < (a1.size : Int) := by omega
        have i2 : (40 : Int) < (a2.size : Int) := by omega
        go_enter Try.func15, Try.ntmps15
        go_wp2_with fail
        refine (hK'.out _).mono ?_
        rintro e v1 ⟨rfl, hb1⟩
        have k1 : Below w.heap.size w v1 := hb1
        have k1' := Lib.hid k1; clear k1 hb1
        go_wp2_with fail
        go_ret
        exact ⟨rfl, k1'.out⟩
    · have i0 : ¬ (40 : Int) < (a0.size : Int) := by omega
      have i1 : (40 : Int) < (a1.size : Int) := by omega
      go_enter Try.func15, Try.ntmps15
      go_wp2_with fail
      refine (hK'.out _).mono ?_
      rintro e v1 ⟨rfl, hb1⟩
      have k1 : Below w.heap.size w v1 := hb1
      have k1' := Lib.hid k1; clear k1 hb1
      go_wp2_with fail
      go_ret
      exact ⟨rfl, k1'.out⟩
  · have i0 : (40 : Int) < (a0.size : Int) := by omega
    go_enter Try.func15, Try.ntmps15
    go_wp2_with fail
    refine (hK'.out _).mono ?_
    rintro e v1 ⟨rfl, hb1⟩
    have k1 : Below w.heap.size w v1 := hb1
    have k1' := Lib.hid k1; clear k1 hb1
    go_wp2_with fail
    go_ret
    exact ⟨rfl, k1'.out⟩

/-! ### THE ROW's STEP: WRITTEN OUT: LEAVE IT -/
set_option maxRecDepth 100000 in
theorem lifted (os : Os) (started : os.Started) (H : Type) (enc : TypeId × Value → H) :
    ReturnsInHanded {} Try.checked os 15 .any (Rows.globJoinsSpec.pre6 enc Try.prog Try.f15 Rows.globJoinsRow.domain false) (Rows.globJoinsSpec.post enc Try.prog Try.f15 false true false false) := by
  refine returnsInHanded_of_change (C := Try.checked) own started (by kernel_rfl) Try.func15
    (ChangeSpec.witness6 (enc := enc) (C := Try.checked) false ⟨#[], #[.string ByteArray.empty, .string ByteArray.empty, .string ByteArray.empty], []⟩ 8 (by kernel_rfl) (by kernel_rfl) (by kernel_rfl) (by kernel_rfl)) ?_
  intro W base args ds gs before hval0 hW hcnd _
  have hval : ∀ (j : Nat) t v, Try.f15.params[j]? = some t → args[j]? = some v → Value.okWide Try.prog W .any base t v := hval0
  have hW' := hW
  obtain ⟨p, q, hA0, hV, rfl, hfz, hnd⟩ := hW
  have hA : DataW.TrodAll enc Try.prog W 0 (fun _ => true) true Try.f15.params.toList args.toList ds p := hA0
  rw [Try.params15] at hA hval
  obtain ⟨v0, vs0, d0, ds0, p0, q0, hargs, rfl, rfl, h0, r0⟩ := trodAll_cons hA
  obtain ⟨v1, vs1, d1, ds1, p1, q1, rfl, rfl, rfl, h1, r1⟩ := trodAll_cons r0
  obtain ⟨v2, vs2, d2, ds2, p2, q2, rfl, rfl, rfl, h2, r2⟩ := trodAll_cons r1
  obtain ⟨rfl, rfl, rfl⟩ := trodAll_nil r2
  obtain rfl : args = #[v0, v1, v2] := by cases args; simp_all
  obtain ⟨rfl, rfl⟩ := trodVars_none hV
  obtain ⟨a0, rfl, rfl, rfl, w0⟩ := open_string Try.underlying9 (hval 0 9 v0 rfl rfl) h0
  obtain ⟨a1, rfl, rfl, rfl, w1⟩ := open_string Try.underlying9 (hval 1 9 v1 rfl rfl) h1
  obtain ⟨a2, rfl, rfl, rfl, w2⟩ := open_string Try.underlying9 (hval 2 9 v2 rfl rfl) h2
  clear hA0 hval0
  simp only [List.append_nil] at hW'
  refine (walk a0 a1 a2 w0 w1 w2 W).mono fun e W' ⟨he, hg⟩ => ?_
  subst he
  exact ⟨_, rfl, post_texts hW' (fun _ _ _ => (trodAll_cons_mk (shut_bool Try.underlying4 _) trodAll_mk0)) (fun sp => (trodAll_cons_mk (shut_string Try.underlying9 w0) (trodAll_cons_mk (shut_string Try.underlying9 w1) (trodAll_cons_mk (shut_string Try.underlying9 w2) trodAll_mk0)))) (fun _ => rfl)
    hg (ok_one (by kernel_rfl) rfl (okWide_bool_mk Try.underlying4 _))⟩

theorem over : Rows.globJoinsRow.holds Try.pinned (OpenSpec.ofChange Rows.globJoinsSpec) :=
  OpenClaim.holds_of_wide 15 Try.f15 rfl rfl rfl rfl rfl rfl rfl ⟨rfl, rfl, rfl, rfl, rfl⟩ rfl rfl rfl rfl rfl (by kernel_rfl) Try.func15 (by kernel_rfl)
    (of_decide_eq_true (by kernel_rfl)) (by unfold Func.isWrapper; first | (rw [if_pos (by decide +kernel)]; kernel_rfl) | (rw [if_neg (by decide +kernel)]; exact ⟨rfl, rfl⟩))
    (fun os started H enc _ => lifted os started H enc)

/-- ████ THE STATEMENT ████ -/
theorem proved : Rows.GlobJoinsSaid :=
  over
#print axioms proved
end Go.Proofs.Ytgjnohkcnfdmkaa.globJoins
