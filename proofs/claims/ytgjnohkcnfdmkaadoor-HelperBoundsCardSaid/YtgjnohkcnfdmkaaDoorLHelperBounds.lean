/-
  The law HelperBounds, with the tied card of its row: proved for all inputs, without conditions.
-/
import Derived.Test.YtgjnohkcnfdmkaaDoorRows
import Derived.Test.YtgjnohkcnfdmkaaDoorCards
import Derived.Test.YtgjnohkcnfdmkaaDoorTie
import Derived.Test.YtgjnohkcnfdmkaaDoorDoor
import Derived.Test.YtgjnohkcnfdmkaaDoorShut
import Derived.Test.YtgjnohkcnfdmkaaDoorHelpLaw
import Derived.WalkKit
import Derived.ProofKit
import Derived.OpenShut
import Derived.ShutString
import Derived.LaidMore
import Derived.Lay
import Derived.SevenTiedAt
import Derived.Stop.Joined
import Derived.ChangeOld
import Derived.Below
import Derived.Laws.AppendOwnNone
namespace Go.Proofs.YtgjnohkcnfdmkaaDoor.helperBounds
open Go.ChangeShapes Go.WideShapes Go.ChangeAt Go.RowKit
open Go.ChangeMaps (open_string shut_string)
open Go.Proofs.YtgjnohkcnfdmkaaDoor
set_option linter.unusedVariables false

theorem own : ownKnob Tryd.prog.godebug = none := by kernel_rfl
theorem laidOut : laidOutB Tryd.prog = true := by kernel_rfl

/-- WHAT THE WALK IS TOLD OF A SLICE OF INTEGERS THAT CAME IN: it is nil; or it leads to a row of 'cap' cells, the numbers 'zs' (the first 'len' are its elements, the rest its spare room), each fitting its kind. -/
def IsRow (k : IntKind) (w : World) (a : Option Addr) (len cap : Nat) (zs : List Int) : Prop :=
  (a = none ∧ len = 0 ∧ cap = 0 ∧ zs = []) ∨
  ∃ x, a = some x ∧ len ≤ cap ∧ cap ≤ maxLen ∧ zs.length = cap ∧ (∀ i, i < zs.length → w.cell? (x.add i) = some (.int k (zs.getD i 0))) ∧ ∀ n ∈ zs, (Lit.int k n).wf = true

/-! ### STEP 1: THE WALK: the Go text returns true, AND WRITES NOTHING THAT WAS THERE: 'Below w.heap.size w w'' (Derived/Below.lean: '.refl', '.alloc', '.drew', '.setCell' at a new block, '.trans'). Open each 'IsRow' by 'rcases' AHEAD of 'go_enter'; part every test ahead of the walk. -/
theorem row_reads {w : World} {a : Option Addr} {n c : Nat} {z : List Int} (h : IsRow .i64 w a n c z) : 0 < n → ∃ x : Addr, a = some x ∧ ∀ i, i < n → ∃ z : Int, w.cell? (x.add i) = some (.int .i64 z) := by
  intro hn
  rcases h with ⟨_, h0, _⟩ | ⟨x, e, hle, _, hz, hc, _⟩
  · omega
  · exact ⟨x, e, fun i hi => ⟨_, hc i (by omega)⟩⟩

open Go.Proofs.YtgjnohkcnfdmkaaDoor in
set_option maxRecDepth 100000 in
set_option maxHeartbeats 4000000 in
theorem walk (a0 : Option Addr) (len0 cap0 : Nat) (z0 : List Int) (a1 : Int) (w : World) (w0 : IsRow .i64 w a0 len0 cap0 z0) (w1 : (Lit.int .i64 a1).wf = true) (m : Int) (hm : w.cell? ⟨0, 0, none⟩ = some (.int .i64 m)) :
    Calls Tryd.prog 4 #[.slice a0 len0 cap0, .int .i64 a1] w fun e w' => e = .returned (.bool true) ∧ Below w.heap.size w w' := by
  have hT0 := tape_new a0 len0 cap0 w (row_reads w0)
  have h0lt : 0 < w.heap.size := World.block_lt_of_cell? w _ hm
  have hK := fun W hW => hknown_any W m hW
  have hK' := Lib.hid hK; clear hK
  have hT0' := Lib.hid hT0; clear hT0 w0 w1
  have hm' := Lib.hid hm; clear hm
  have keep : ∀ W, Only (fun j => j = w.heap.size) w W → Below w.heap.size w W ∧ W.cell? ⟨0, 0, none⟩ = some (.int .i64 m) := fun W h =>
    ⟨h.below (fun k e => by omega) (Nat.le_refl _), (World.cell?_of_block (h.block 0 h0lt (by omega))).trans hm'.out⟩
  have keep' := Lib.hid keep; clear keep
  go_enter Tryd.func4, Tryd.ntmps4
  go_wp2_with fail
  refine (helpers_any w.heap.size w.heap.size 0 _ hT0'.out (by omega)).mono ?_
  rintro e v1 ⟨l, v, lim, q, rfl, hl1, hl2, hin, hlen, hq, hown, hT1, hO1⟩
  have k1 := Lib.hid (((Only.refl (fun j => j = w.heap.size) w).alloc _).trans hO1)
  have hin' := Lib.hid hin
  have hown' := Lib.hid hown
  have hT1' := Lib.hid hT1
  clear hin hown hT1 hO1 hT0'
  go_wp2_with fail
  refine (command_any w.heap.size w.heap.size q _ hT1'.out (by omega)).mono ?_
  rintro e v2 ⟨⟨c, hc, rfl⟩, hT2, hO2⟩
  have k2 := Lib.hid (k1.out.trans hO2)
  have hown2 := Lib.hid (own_only hown'.out hO2 fun j hj e => by have := (World.ownsRow.lt hown'.out j hj).1; simp at this; omega)
  clear hT2 hO2 hT1' hown' k1
  have hat : HelpersAt v2 v l := HOwn.at hown2.out (by omega)
  have hC := call_any l v lim a1 c v2 hat (fun h hh => by have := (allH_good h (hin'.out h hh)).1; omega) (by omega)
  obtain ⟨s, n, e, hcs, hn0, hn1, hcases⟩ := callS_cases l lim a1 c (fun h hh => (allH_good h (hin'.out h hh)).2.2.1) (by omega)
  rw [hcs] at hC
  have hC' := Lib.hid hC; clear hC hcs hat hown2 hin'
  have fin : ∀ W, Below v2.heap.size v2 W → Below w.heap.size w W ∧ W.cell? ⟨0, 0, none⟩ = some (.int .i64 m) := fun W h => by
    have hb := (keep'.out v2 k2.out)
    have hbb := hb.1.trans (h.mono hb.1.size)
    exact ⟨hbb, (World.cell?_of_block (hbb.block 0 h0lt)).trans hm'.out⟩
  have fin' := Lib.hid fin; clear fin keep' k2
  rcases hcases with ⟨h16, rfl, rfl, rfl⟩ | ⟨h16, rfl⟩ | ⟨h16, he, rfl⟩
  · go_wp2_with fail
    refine hC'.out.mono ?_
    rintro e v3 ⟨rfl, hb3⟩
    obtain ⟨k3, m3⟩ := fin'.out v3 hb3
    have k3' := Lib.hid k3; clear k3 hb3
    have m3' := Lib.hid m3; clear m3
    go_wp2_with fail
    refine (hK'.out _ m3'.out).mono ?_
    rintro e v4 ⟨rfl, hb4⟩
    have k4 := Lib.hid (k3'.out.trans (hb4.mono k3'.out.size)); clear hb4
    go_wp2_with fail
    go_ret
    exact ⟨rfl, k4.out⟩
  · go_wp2_with fail
    refine hC'.out.mono ?_
    rintro e v3 ⟨rfl, hb3⟩
    obtain ⟨k3, m3⟩ := fin'.out v3 hb3
    have k3' := Lib.hid k3; clear k3 hb3
    have m3' := Lib.hid m3; clear m3
    go_wp2_with fail
    refine (hK'.out _ m3'.out).mono ?_
    rintro e v4 ⟨rfl, hb4⟩
    have k4 := Lib.hid (k3'.out.trans (hb4.mono k3'.out.size)); clear hb4
    go_wp2_with fail
    go_ret
    exact ⟨rfl, k4.out⟩
  · go_wp2_with fail
    refine hC'.out.mono ?_
    rintro e v3 ⟨rfl, hb3⟩
    obtain ⟨k3, m3⟩ := fin'.out v3 hb3
    have k3' := Lib.hid k3; clear k3 hb3
    have m3' := Lib.hid m3; clear m3
    go_wp2_with fail
    refine (hK'.out _ m3'.out).mono ?_
    rintro e v4 ⟨rfl, hb4⟩
    have k4 := Lib.hid (k3'.out.trans (hb4.mono k3'.out.size)); clear hb4
    go_wp2_with fail
    go_ret
    exact ⟨rfl, k4.out⟩

/-! ### THE ROW's STEP: WRITTEN OUT: LEAVE IT -/
set_option maxRecDepth 100000 in
theorem lifted (os : Os) (started : os.Started) (H : Type) (enc : TypeId × Value → H) :
    ReturnsInHanded {} Tryd.checked os 4 .any (fun w args => (Rows.helperBoundsSpec.pre enc Tryd.prog Tryd.f4 Rows.helperBoundsRow.domain false w args ∧ laidMetH Tryd.prog Rows.helperBoundsRow.laid w) ∧ sizedMet enc Tryd.prog Tryd.f4 (OpenSpec.ofChange Rows.helperBoundsSpec) false w args) (Rows.helperBoundsSpec.post enc Tryd.prog Tryd.f4 false true false false) := by
  refine handed_and_shaped (C := Tryd.checked) (X := fun w _ => laidMetH Tryd.prog Rows.helperBoundsRow.laid w) (fun _ _ _ hh h => h.of_heap hh) own started (by kernel_rfl) Tryd.func4
    (ChangeSpec.witness_shaped (enc := enc) (C := Tryd.checked) (os := os) (X := fun w _ => laidMetH Tryd.prog Rows.helperBoundsRow.laid w) false (World.laidAll Tryd.prog os Rows.helperBoundsRow.laid) #[.slice none 0 0, .int .i64 0] 8 (World.laidAll_os _ _ _)
      (World.shaped_of_ZipB (by kernel_rfl) (by kernel_rfl)) (by kernel_rfl) (by kernel_rfl) (by kernel_rfl)
      (by rw [MakeChecks.laidMetH_plain _ _ _ (by kernel_rfl)]; exact laidMet_laidAll _ (by kernel_rfl) (by kernel_rfl))) ?_
  intro W base args ds gs before hval0 hW hcnd hsh _
  have hval : ∀ (j : Nat) t v, Tryd.f4.params[j]? = some t → args[j]? = some v → Value.okWide Tryd.prog W .any base t v := hval0
  have hW' := hW
  obtain ⟨p, q, hA0, hV, rfl, hfz, hnd⟩ := hW
  have hA : DataW.TrodAll enc Tryd.prog W 0 (fun _ => true) true Tryd.f4.params.toList args.toList ds p := hA0
  rw [Tryd.params4] at hA hval
  obtain ⟨v0, vs0, d0, ds0, p0, q0, hargs, rfl, rfl, h0, r0⟩ := trodAll_cons hA
  obtain ⟨v1, vs1, d1, ds1, p1, q1, rfl, rfl, rfl, h1, r1⟩ := trodAll_cons r0
  obtain ⟨rfl, rfl, rfl⟩ := trodAll_nil r1
  obtain rfl : args = #[v0, v1] := by cases args; simp_all
  obtain ⟨rfl, rfl⟩ := trodVars_none hV
  obtain ⟨a0, len0, cap0, rfl⟩ := okWide_slice Tryd.underlying22 (hval 0 22 v0 rfl rfl)
  have k0 := h0
  have lt0 : ∀ x ∈ p0, x.block < W.heap.size := by obtain ⟨m, hm⟩ := k0; exact DataW.trod_lt m _ _ _ hm
  obtain ⟨z0, w0⟩ : ∃ zs, IsRow .i64 W a0 len0 cap0 zs := by
    obtain ⟨fuel, hf⟩ := h0
    rcases open_ints Tryd.underlying22 Tryd.underlying3 (by kernel_rfl) hf with ⟨hcs, _⟩ | ⟨x, l, c, zs, hcs, _, hl, hm, hz, _, hcell, hwz⟩
    · simp [Value.cells] at hcs
      obtain ⟨rfl, rfl, rfl⟩ := hcs
      exact ⟨[], .inl ⟨rfl, rfl, rfl, rfl⟩⟩
    · simp [Value.cells] at hcs
      obtain ⟨rfl, rfl, rfl⟩ := hcs
      exact ⟨zs, .inr ⟨_, rfl, hl, hm, by simpa using hz, hcell, hwz⟩⟩
  obtain ⟨a1, rfl, rfl, rfl, w1⟩ := open_int Tryd.underlying3 (hval 1 3 v1 rfl rfl) h1
  clear hA0 hval0
  obtain ⟨m, hm⟩ := Tryd.laysM143.s1_3 W hsh
  refine (walk a0 len0 cap0 z0 a1 W w0 w1 m hm).mono fun e W' ⟨he, bel⟩ => ?_
  subst he
  exact ⟨_, rfl, _, _, _, [], _, [], hW', trodAll_mk1 (shut_bool Tryd.underlying4 _), (trodAll_cons_mk (Below.trod laidOut (by kernel_rfl) (of_decide_eq_true (by kernel_rfl)) k0 bel lt0) (trodAll_cons_mk (shut_int Tryd.underlying3 w1) trodAll_mk0)), rfl, bel.frame _, fun h => by cases h⟩

theorem over : Rows.helperBoundsRow.holds Tryd.pinned (OpenSpec.ofChange Rows.helperBoundsSpec) :=
  OpenClaim.holds_of_wide 4 Tryd.f4 rfl rfl rfl rfl rfl rfl rfl ⟨rfl, rfl, rfl, rfl, rfl⟩ rfl rfl rfl rfl rfl (by kernel_rfl) Tryd.func4 (by kernel_rfl)
    (of_decide_eq_true (by kernel_rfl)) (by unfold Func.isWrapper; first | (rw [if_pos (by decide +kernel)]; kernel_rfl) | (rw [if_neg (by decide +kernel)]; exact ⟨rfl, rfl⟩))
    (fun os started H enc _ => lifted os started H enc)

/-- ████ THE STATEMENT: THE TIED CARD ████ -/
theorem proved : Rows.HelperBoundsCardSaid :=
  Claim7.holds_tied_plain_at .later [] [.data, .pinned] true (true, "976c7b5ca0a6e0b7ae283dd8bbc166f4b8d42aca6b552a348e227aea158a716c") false over (fun _ h => by cases h) (by kernel_rfl) (fun _ h => by cases h) helperBounds_row_tie rfl ⟨rfl, rfl⟩ (by kernel_rfl) rfl
    (fun f fn hf hfn => by
      obtain rfl : f = 4 := Option.some.inj ((show Tryd.prog.funcNamed "coldplug/coldpluglaw14.HelperBounds" = some 4 by kernel_rfl).symm.trans hf) |>.symm
      obtain rfl : fn = Tryd.f4 := (Option.some.inj (Tryd.func4.symm.trans hfn)).symm
      exact ⟨by kernel_rfl, fun j t ht => by
        rw [Tryd.params4] at ht
        have hm : t ∈ [22, 3] := by
          have := Array.mem_of_getElem? ht
          simp at this ⊢
          exact this
        have hall : ([22, 3].all fun u => !Tryd.prog.wantsStandIn u) = true := by kernel_rfl
        exact (show Tryd.prog.wantsStandIn t = false by simpa using List.all_eq_true.1 hall t hm)⟩)
    (by kernel_rfl)
#print axioms proved
end Go.Proofs.YtgjnohkcnfdmkaaDoor.helperBounds
