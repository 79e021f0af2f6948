/-
  The law HelperItems, with the tied card of its row: proved for all inputs, without conditions.
-/
import Derived.Test.YtgjnohkcnfdmkaaDoorRows
import Derived.Test.YtgjnohkcnfdmkaaDoorCards
import Derived.Test.YtgjnohkcnfdmkaaDoorTie
import Derived.Test.YtgjnohkcnfdmkaaDoorDoor
import Derived.Test.YtgjnohkcnfdmkaaDoorShut
import Derived.Test.YtgjnohkcnfdmkaaDoorHelpKnown
import Derived.WalkKit
import Derived.ProofKit
import Derived.OpenShut
import Derived.ShutString
import Derived.LaidMore
import Derived.Lay
import Derived.SevenTiedAt
import Derived.Stop.Joined
namespace Go.Proofs.YtgjnohkcnfdmkaaDoor.helperItems
open Go.ChangeShapes Go.WideShapes Go.ChangeAt Go.RowKit
open Go.ChangeMaps (open_string shut_string)
open Go.Proofs.YtgjnohkcnfdmkaaDoor
set_option linter.unusedVariables false      -- a walk need not use every 'w<i>' (that an integer argument fits its kind)

theorem own : ownKnob Tryd.prog.godebug = none := by kernel_rfl

/-! ### STEP 1: THE WALK: the Go text returns true. 'Grown w w'': the world has at most new blocks (Derived/RowKit3.lean). Part the cases AHEAD of 'go_enter' where a test parts the walk; take each callee by a contract of your own. -/
open Go.Proofs.YtgjnohkcnfdmkaaDoor in
set_option maxHeartbeats 2000000 in
theorem walk (a0 : ByteArray) (w0 : a0.size ≤ maxLen) (w : World) (m : Int) (hm : w.cell? ⟨0, 0, none⟩ = some (.int .i64 m)) :
    Calls Tryd.prog 7 #[.string a0] w fun e w' => e = .returned (.bool true) ∧ Below w.heap.size w w' := by
  have h0lt : 0 < w.heap.size := World.block_lt_of_cell? w _ hm
  have hK := fun W hW => hknown_any W m hW
  have hK' := Lib.hid hK; clear hK
  by_cases s0 : a0.size ≤ 600
  · have i0 : ¬ (600 : Int) < (a0.size : Int) := by omega
    have hI := fun W hW => items_any a0 m W (by omega) hW
    have hR := fun W hW => ritems_any a0 m W (by omega) hW
    have hL := items_len a0
    generalize items a0 = l at *
    have hI' := Lib.hid hI; clear hI
    have hR' := Lib.hid hR; clear hR
    have hm' := Lib.hid hm; clear hm
    have hL' := Lib.hid hL; clear hL
    go_enter Tryd.func7, Tryd.ntmps7
    go_wp2_with fail
    refine (hI'.out _ hm'.out).mono ?_
    rintro e v1 ⟨⟨va, rfl, ha⟩, hb1⟩
    have k1 : Below w.heap.size w v1 := hb1
    have m1 : v1.cell? ⟨0, 0, none⟩ = some (.int .i64 m) := (World.cell?_of_block (k1.block 0 h0lt)).trans hm'.out
    have ha' := Lib.hid ha; clear ha
    have k1' := Lib.hid k1; clear k1 hb1
    have m1' := Lib.hid m1; clear m1
    go_wp2_with fail
    refine (hR'.out _ m1'.out).mono ?_
    rintro e v2 ⟨⟨vb, rfl, hb⟩, hb2⟩
    have k2 : Below w.heap.size w v2 := k1'.out.trans (hb2.mono k1'.out.size)
    have m2 : v2.cell? ⟨0, 0, none⟩ = some (.int .i64 m) := (World.cell?_of_block (k2.block 0 h0lt)).trans hm'.out
    have ha2 : Attrs v2 (w.heap.size + 1) va l := own_below ha'.out hb2
    have ha2' := Lib.hid ha2; clear ha2 ha'
    have hb' := Lib.hid hb; clear hb
    have k2' := Lib.hid k2; clear k2 hb2 k1'
    have m2' := Lib.hid m2; clear m2 m1'
    go_wp2_with fail
    refine (same_any l l va vb _ _ _ ha2'.out hb'.out (by have := hL'.out; omega)).mono ?_
    rintro e v3 ⟨rfl, hb3⟩
    rw [decide_eq_true (rfl : l = l)]
    have k3 : Below w.heap.size w v3 := k2'.out.trans (hb3.mono k2'.out.size)
    have m3 : v3.cell? ⟨0, 0, none⟩ = some (.int .i64 m) := (World.cell?_of_block (k3.block 0 h0lt)).trans hm'.out
    have k3' := Lib.hid k3; clear k3 hb3 k2' ha2' hb'
    have m3' := Lib.hid m3; clear m3 m2'
    go_wp2_with fail
    refine (hK'.out _ m3'.out).mono ?_
    rintro e v4 ⟨rfl, hb4⟩
    have k4 : Below w.heap.size w v4 := k3'.out.trans (hb4.mono k3'.out.size)
    have k4' := Lib.hid k4; clear k4 hb4 k3' m3'
    go_wp2_with fail
    go_ret
    exact ⟨rfl, k4'.out⟩
  · have i0 : (600 : Int) < (a0.size : Int) := by omega
    have hm' := Lib.hid hm; clear hm
    go_enter Tryd.func7, Tryd.ntmps7
    go_wp2_with fail
    refine (hK'.out _ hm'.out).mono ?_
    rintro e v1 ⟨rfl, hb1⟩
    have k1' := Lib.hid hb1; clear hb1
    go_wp2_with fail
    go_ret
    exact ⟨rfl, k1'.out⟩

/-! ### THE ROW's STEP: WRITTEN OUT: LEAVE IT -/
set_option maxRecDepth 100000 in
theorem lifted (os : Os) (started : os.Started) (H : Type) (enc : TypeId × Value → H) :
    ReturnsInHanded {} Tryd.checked os 7 .any (fun w args => (Rows.helperItemsSpec.pre enc Tryd.prog Tryd.f7 Rows.helperItemsRow.domain false w args ∧ laidMetH Tryd.prog Rows.helperItemsRow.laid w) ∧ sizedMet enc Tryd.prog Tryd.f7 (OpenSpec.ofChange Rows.helperItemsSpec) false w args) (Rows.helperItemsSpec.post enc Tryd.prog Tryd.f7 false true false false) := by
  refine handed_and_shaped (C := Tryd.checked) (X := fun w _ => laidMetH Tryd.prog Rows.helperItemsRow.laid w) (fun _ _ _ hh h => h.of_heap hh) own started (by kernel_rfl) Tryd.func7
    (ChangeSpec.witness_shaped (enc := enc) (C := Tryd.checked) (os := os) (X := fun w _ => laidMetH Tryd.prog Rows.helperItemsRow.laid w) false (World.laidAll Tryd.prog os Rows.helperItemsRow.laid) #[.string ByteArray.empty] 8 (World.laidAll_os _ _ _)
      (World.shaped_of_ZipB (by kernel_rfl) (by kernel_rfl)) (by kernel_rfl) (by kernel_rfl) (by kernel_rfl)
      (by rw [MakeChecks.laidMetH_plain _ _ _ (by kernel_rfl)]; exact laidMet_laidAll _ (by kernel_rfl) (by kernel_rfl))) ?_
  intro W base args ds gs before hval0 hW hcnd hsh _
  have hval : ∀ (j : Nat) t v, Tryd.f7.params[j]? = some t → args[j]? = some v → Value.okWide Tryd.prog W .any base t v := hval0
  have hW' := hW
  obtain ⟨p, q, hA0, hV, rfl, hfz, hnd⟩ := hW
  have hA : DataW.TrodAll enc Tryd.prog W 0 (fun _ => true) true Tryd.f7.params.toList args.toList ds p := hA0
  rw [Tryd.params7] at hA hval
  obtain ⟨v0, vs0, d0, ds0, p0, q0, hargs, rfl, rfl, h0, r0⟩ := trodAll_cons hA
  obtain ⟨rfl, rfl, rfl⟩ := trodAll_nil r0
  obtain rfl : args = #[v0] := by cases args; simp_all
  obtain ⟨rfl, rfl⟩ := trodVars_none hV
  obtain ⟨a0, rfl, rfl, rfl, w0⟩ := open_string Tryd.underlying9 (hval 0 9 v0 rfl rfl) h0
  clear hA0 hval0
  simp only [List.append_nil] at hW'
  obtain ⟨m, hm⟩ := Tryd.laysM143.s1_3 W hsh
  refine (walk a0 w0 W m hm).mono fun e W' ⟨he, hg⟩ => ?_
  subst he
  exact ⟨_, rfl, post_texts hW' (fun _ _ _ => (trodAll_cons_mk (shut_bool Tryd.underlying4 _) trodAll_mk0)) (fun sp => (trodAll_cons_mk (shut_string Tryd.underlying9 w0) trodAll_mk0)) (fun _ => rfl)
    hg (ok_one (by kernel_rfl) rfl (okWide_bool_mk Tryd.underlying4 _))⟩

theorem over : Rows.helperItemsRow.holds Tryd.pinned (OpenSpec.ofChange Rows.helperItemsSpec) :=
  OpenClaim.holds_of_wide 7 Tryd.f7 rfl rfl rfl rfl rfl rfl rfl ⟨rfl, rfl, rfl, rfl, rfl⟩ rfl rfl rfl rfl rfl (by kernel_rfl) Tryd.func7 (by kernel_rfl)
    (of_decide_eq_true (by kernel_rfl)) (by unfold Func.isWrapper; first | (rw [if_pos (by decide +kernel)]; kernel_rfl) | (rw [if_neg (by decide +kernel)]; exact ⟨rfl, rfl⟩))
    (fun os started H enc _ => lifted os started H enc)

/-- ████ THE STATEMENT: THE TIED CARD ████ -/
theorem proved : Rows.HelperItemsCardSaid :=
  Claim7.holds_tied_plain_at .later [] [.data, .pinned] true (true, "976c7b5ca0a6e0b7ae283dd8bbc166f4b8d42aca6b552a348e227aea158a716c") false over (fun _ h => by cases h) (by kernel_rfl) (fun _ h => by cases h) helperItems_row_tie rfl ⟨rfl, rfl⟩ (by kernel_rfl) rfl
    (fun f fn hf hfn => by
      obtain rfl : f = 7 := Option.some.inj ((show Tryd.prog.funcNamed "coldplug/coldpluglaw14.HelperItems" = some 7 by kernel_rfl).symm.trans hf) |>.symm
      obtain rfl : fn = Tryd.f7 := (Option.some.inj (Tryd.func7.symm.trans hfn)).symm
      exact ⟨by kernel_rfl, fun j t ht => by
        rw [Tryd.params7] at ht
        have hm : t ∈ [9] := by
          have := Array.mem_of_getElem? ht
          simp at this ⊢
          exact this
        have hall : ([9].all fun u => !Tryd.prog.wantsStandIn u) = true := by kernel_rfl
        exact (show Tryd.prog.wantsStandIn t = false by simpa using List.all_eq_true.1 hall t hm)⟩)
    (by kernel_rfl)
#print axioms proved
end Go.Proofs.YtgjnohkcnfdmkaaDoor.helperItems
