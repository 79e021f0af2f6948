/-
  The law HelperCalls, with the tied card of its row: proved for all inputs, without conditions.
-/
import Derived.Test.YtgjnohkcnfdmkaaDoorRows
import Derived.Test.YtgjnohkcnfdmkaaDoorCards
import Derived.Test.YtgjnohkcnfdmkaaDoorTie
import Derived.Test.YtgjnohkcnfdmkaaDoorDoor
import Derived.Test.YtgjnohkcnfdmkaaDoorShut
import Derived.Test.YtgjnohkcnfdmkaaDoorRefCall
import Derived.WalkKit
import Derived.ProofKit
import Derived.OpenShut
import Derived.ShutString
import Derived.LaidMore
import Derived.Lay
import Derived.SevenTiedAt
import Derived.Stop.Joined
import Derived.ChangeOld
import Derived.Below
import Derived.Laws.AppendOwnNone
namespace Go.Proofs.YtgjnohkcnfdmkaaDoor.helperCalls
open Go.ChangeShapes Go.WideShapes Go.ChangeAt Go.RowKit
open Go.ChangeMaps (open_string shut_string)
open Go.Proofs.YtgjnohkcnfdmkaaDoor
set_option linter.unusedVariables false

theorem own : ownKnob Tryd.prog.godebug = none := by kernel_rfl
theorem laidOut : laidOutB Tryd.prog = true := by kernel_rfl

/-- WHAT THE WALK IS TOLD OF A SLICE OF INTEGERS THAT CAME IN: it is nil; or it leads to a row of 'cap' cells, the numbers 'zs' (the first 'len' are its elements, the rest its spare room), each fitting its kind. -/
def IsRow (k : IntKind) (w : World) (a : Option Addr) (len cap : Nat) (zs : List Int) : Prop :=
  (a = none ∧ len = 0 ∧ cap = 0 ∧ zs = []) ∨
  ∃ x, a = some x ∧ len ≤ cap ∧ cap ≤ maxLen ∧ zs.length = cap ∧ (∀ i, i < zs.length → w.cell? (x.add i) = some (.int k (zs.getD i 0))) ∧ ∀ n ∈ zs, (Lit.int k n).wf = true

/-! ### STEP 1: THE WALK: the Go text returns true, AND WRITES NOTHING THAT WAS THERE: 'Below w.heap.size w w'' (Derived/Below.lean: '.refl', '.alloc', '.drew', '.setCell' at a new block, '.trans'). Open each 'IsRow' by 'rcases' AHEAD of 'go_enter'; part every test ahead of the walk. -/
theorem row_reads {w : World} {a : Option Addr} {n c : Nat} {z : List Int} (h : IsRow .i64 w a n c z) : 0 < n → ∃ x : Addr, a = some x ∧ ∀ i, i < n → ∃ z : Int, w.cell? (x.add i) = some (.int .i64 z) := by
  intro hn
  rcases h with ⟨_, h0, _⟩ | ⟨x, e, hle, _, hz, hc, _⟩
  · omega
  · exact ⟨x, e, fun i hi => ⟨_, hc i (by omega)⟩⟩

theorem three (a b c : Int) (k : Nat) (hk : k < 3) : ∃ z : Int, (#[Value.int .i64 a, .int .i64 b, .int .i64 c] : Array Value)[k]? = some (.int .i64 z) := by
  match k with
  | 0 => exact ⟨a, rfl⟩
  | 1 => exact ⟨b, rfl⟩
  | 2 => exact ⟨c, rfl⟩
  | k + 3 => omega
theorem two (a b : ByteArray) (k : Nat) (hk : k < 2) (ha : a.size ≤ 400) (hb : b.size ≤ 400) : ∃ s : ByteArray, (#[Value.string a, .string b] : Array Value)[k]? = some (.string s) ∧ s.size ≤ 400 := by
  match k with
  | 0 => exact ⟨a, rfl, ha⟩
  | 1 => exact ⟨b, rfl, hb⟩
  | k + 2 => omega

open Go.Proofs.YtgjnohkcnfdmkaaDoor in
set_option maxRecDepth 100000 in
set_option maxHeartbeats 4000000 in
theorem walk (a0 : Option Addr) (len0 cap0 : Nat) (z0 : List Int) (a1 : ByteArray) (a2 : Int) (w : World) (w0 : IsRow .i64 w a0 len0 cap0 z0) (w1 : a1.size ≤ maxLen) (w2 : (Lit.int .i64 a2).wf = true) (m : Int) (hm : w.cell? ⟨0, 0, none⟩ = some (.int .i64 m)) :
    Calls Tryd.prog 3 #[.slice a0 len0 cap0, .string a1, .int .i64 a2] w fun e w' => e = .returned (.bool true) ∧ Below w.heap.size w w' := by
  have hT0 := tape_new a0 len0 cap0 w (row_reads w0)
  have h0lt : 0 < w.heap.size := World.block_lt_of_cell? w _ hm
  have hK := fun W hW => hknown_any W m hW
  have hK' := Lib.hid hK; clear hK
  have hT0' := Lib.hid hT0; clear hT0 w0 w2
  have hm' := Lib.hid hm; clear hm
  by_cases s1 : a1.size ≤ 400
  · have i1 : ¬ (400 : Int) < (a1.size : Int) := by omega
    have keep : ∀ W, Only (fun j => j = w.heap.size) w W → Below w.heap.size w W ∧ W.cell? ⟨0, 0, none⟩ = some (.int .i64 m) := fun W h =>
      ⟨h.below (fun k e => by omega) (Nat.le_refl _), (World.cell?_of_block (h.block 0 h0lt (by omega))).trans hm'.out⟩
    have keep' := Lib.hid keep; clear keep
    go_enter Tryd.func3, Tryd.ntmps3
    go_wp2_with fail
    refine (helpers_any w.heap.size w.heap.size 0 _ hT0'.out (by omega)).mono ?_
    rintro e v1 ⟨l, v, lim, q, rfl, hl1, hl2, hin, hlen, hq, hown, hT1, hO1⟩
    have k1 := Lib.hid (((Only.refl (fun j => j = w.heap.size) w).alloc _).trans hO1)
    have hin' := Lib.hid hin
    have hown' : Hid (HOwn v1 (w.heap.size + 1) v l) := own_mono hown (by simp)
    have hT1' := Lib.hid hT1
    clear hin hown hT1 hO1 hT0'
    go_wp2_with fail
    refine (command_any w.heap.size w.heap.size q _ hT1'.out (by omega)).mono ?_
    rintro e v2 ⟨⟨c, hc, rfl⟩, hT2, hO2⟩
    have k2 := Lib.hid (k1.out.trans hO2)
    have hown2 : Hid (HOwn v2 (w.heap.size + 1) v l) := own_only hown'.out hO2 fun j hj e => by have := (World.ownsRow.lt hown'.out j hj).1; omega
    have hT2' := Lib.hid hT2
    have hw2 : w.heap.size < v2.heap.size := hT2.lt.2
    clear hT2 hO2 hT1' hown' k1
    go_wp2_with fail
    refine (next_any w.heap.size w.heap.size (q + 1) 18 _ (hT2'.out.below ((Below.refl _ _).alloc (Nat.le_refl _) _)) (by omega) (by omega) (by omega)).mono ?_
    rintro e v3 ⟨⟨r, hr, rfl⟩, hT3, hO3⟩
    have hBl : Hid (Blk v3 v2.heap.size 9 #[.string a1, .string c]) := (Blk.new v2 _ _).only hO3 (by omega)
    have k3 := Lib.hid ((k2.out.alloc (.cells #[.string a1, .string c] 9)).trans hO3)
    have hown3 : Hid (HOwn v3 (w.heap.size + 1) v l) := own_only (World.ownsRow.alloc hown2.out (.cells #[.string a1, .string c] 9)) hO3 fun j hj e => by have := (World.ownsRow.lt hown2.out j hj).1; omega
    clear hT3 hO3 hT2' hown2 k2
    go_wp2_with fail
    have hBc : Hid (Blk (v3.alloc (.cells #[.int .i64 a2, .int .i64 r, .int .i64 0] 3)) v3.heap.size 3 #[.int .i64 a2, .int .i64 r, .int .i64 0]) := Blk.new _ _ _
    have hBl2 : Hid (Blk (v3.alloc (.cells #[.int .i64 a2, .int .i64 r, .int .i64 0] 3)) v2.heap.size 9 #[.string a1, .string c]) := hBl.out.alloc _
    have hown4 : Hid (HOwn (v3.alloc (.cells #[.int .i64 a2, .int .i64 r, .int .i64 0] 3)) (w.heap.size + 1) v l) := World.ownsRow.alloc hown3.out _
    have k4 := Lib.hid (keep'.out _ (k3.out.alloc (.cells #[.int .i64 a2, .int .i64 r, .int .i64 0] 3)))
    clear hBl hown3 k3 keep'
    generalize v3.heap.size = b11 at *
    generalize v2.heap.size = b10 at *
    generalize v3.alloc (.cells #[.int .i64 a2, .int .i64 r, .int .i64 0] 3) = v4 at *
    have hat : ∀ W, Below v4.heap.size v4 W → HelpersAt W v l := fun W h => (HOwn.at hown4.out (by omega)).below h
    have hat' := Lib.hid hat; clear hat hown4
    have hb11 : b11 < v4.heap.size := hBc.out.lt
    have hb10 : b10 < v4.heap.size := hBl2.out.lt
    have fin : ∀ W, Below v4.heap.size v4 W → Below w.heap.size w W ∧ W.cell? ⟨0, 0, none⟩ = some (.int .i64 m) := fun W h => by
      have hbb := k4.out.1.trans (h.mono k4.out.1.size)
      exact ⟨hbb, (World.cell?_of_block (hbb.block 0 h0lt)).trans hm'.out⟩
    have fin' := Lib.hid fin; clear fin k4
    have hsz' : Hid (∀ h ∈ l, h.cmd.size ≤ 1000000000000) := fun h hh => by have := (allH_good h (hin'.out h hh)).1; omega
    clear hin'
    go_loopw [12] (fun s12 wr => ∃ i : Nat, s12 = .int .i64 i ∧ i ≤ 2 ∧ Hid (Below v4.heap.size v4 wr)) (fun s12 _ => 2 - (intOf s12).toNat)
    case atStart => exact ⟨0, rfl, by omega, Below.refl _ _⟩
    case round =>
      obtain ⟨i, rfl, hi, hb⟩ := hrel
      by_cases hi2 : i < 2
      · obtain ⟨s, hs, hss⟩ := two a1 c i hi2 s1 (by omega)
        have hcs : Hid (v4.cell? ⟨b10, i, none⟩ = some (.string s)) := (hBl2.out.cell i).trans hs
        clear hs
        have i0 : (i : Int) < 2 := by omega
        have i00 : decide ((i : Int) < 2) = true := decide_eq_true i0
        go_wp2_with fail
        go_loopw [13] (fun s13 wx => ∃ k : Nat, s13 = .int .i64 k ∧ k ≤ 3 ∧ Hid (Below v4.heap.size v4 wx)) (fun s13 _ => 3 - (intOf s13).toNat)
        case atStart => exact ⟨0, rfl, by omega, hb⟩
        case round =>
          obtain ⟨k, rfl, hk, hbx⟩ := hrel
          by_cases hk3 : k < 3
          · obtain ⟨z, hz⟩ := three a2 r 0 k hk3
            have hcz : Hid (v4.cell? ⟨b11, k, none⟩ = some (.int .i64 z)) := (hBc.out.cell k).trans hz
            clear hz
            have hC1 := fun W h => call_any l v lim z s W (hat'.out W h) hsz'.out (by omega)
            have hC2 := fun W h => rcall_any l v lim z s W (hat'.out W h) hsz'.out (by omega)
            generalize (callS l lim z s).1 = rs at *
            generalize (callS l lim z s).2.1 = rn at *
            generalize (callS l lim z s).2.2 = re at *
            have hC1' := Lib.hid hC1; clear hC1
            have hC2' := Lib.hid hC2; clear hC2
            have c1 := (World.cell?_of_block (a := ⟨b10, i, none⟩) (hbx.out.block b10 hb10)).trans hcs.out
            have c2 := (World.cell?_of_block (a := ⟨b11, k, none⟩) (hbx.out.block b11 hb11)).trans hcz.out
            have hkeep : ∀ W y : World, Below v4.heap.size v4 W → Below W.heap.size W y → Below v4.heap.size v4 y ∧ y.cell? ⟨b10, i, none⟩ = some (.string s) ∧ y.cell? ⟨b11, k, none⟩ = some (.int .i64 z) := fun W y h1 h2 => by
              have h3 := h1.trans (h2.mono h1.size)
              exact ⟨h3, (World.cell?_of_block (a := ⟨b10, i, none⟩) (h3.block b10 hb10)).trans hcs.out, (World.cell?_of_block (a := ⟨b11, k, none⟩) (h3.block b11 hb11)).trans hcz.out⟩
            have hkeep' := Lib.hid hkeep; clear hkeep
            go_wp2_with fail
            ((go_region_held3 (fun w' => Below v4.heap.size v4 w' ∧ w'.cell? ⟨b10, i, none⟩ = some (.string s) ∧ w'.cell? ⟨b11, k, none⟩ = some (.int .i64 z))
              ((first
                | exact ⟨hbx.out, c1, c2⟩
                | exact ⟨Below.drew hbx.out, c1, c2⟩
                | exact hkeep'.out _ _ (Below.drew hbx.out) hy1))
              (first | (go_at_call 13; refine (hC1'.out _ (by first | exact hbx.out | exact Below.drew hbx.out)).mono ?_; rintro e y1 ⟨rfl, hy1⟩) | fail)))
            obtain ⟨hb1, d1, d2⟩ := hkeep'.out _ _ (Below.drew hbx.out) hy1
            have hb1' := Lib.hid hb1; clear hb1 hy1 c1 c2
            go_wp2_with fail
            ((go_region_held3 (fun w' => Below v4.heap.size v4 w' ∧ w'.cell? ⟨b10, i, none⟩ = some (.string s) ∧ w'.cell? ⟨b11, k, none⟩ = some (.int .i64 z))
              ((first
                | exact ⟨hb1'.out, d1, d2⟩
                | exact ⟨Below.drew hb1'.out, d1, d2⟩
                | exact hkeep'.out _ _ (Below.drew hb1'.out) hy2))
              (first | (go_at_call 14; refine (hC2'.out _ (by first | exact hb1'.out | exact Below.drew hb1'.out)).mono ?_; rintro e y2 ⟨rfl, hy2⟩) | fail)))
            obtain ⟨hb2, -, -⟩ := hkeep'.out _ _ (Below.drew hb1'.out) hy2
            have hb2' := Lib.hid hb2; clear hb2 hy2
            go_wp2_with fail
            go_roundw
            case rel => exact ⟨k + 1, by go_num, by omega, hb2'⟩
            case measure => simp [intOf]; omega
          · obtain rfl : k = 3 := by omega
            go_wp2_with fail
            go_roundw
            case rel => exact ⟨i + 1, by go_num, by omega, hbx⟩
            case measure => simp [intOf]; omega
      · obtain rfl : i = 2 := by omega
        obtain ⟨k5, m5⟩ := fin'.out _ hb.out
        have k5' := Lib.hid k5; clear k5
        have m5' := Lib.hid m5; clear m5
        go_wp2_with fail
        refine (hK'.out _ m5'.out).mono ?_
        rintro e v6 ⟨rfl, hb6⟩
        have k6 := Lib.hid (k5'.out.trans (hb6.mono k5'.out.size)); clear hb6
        go_wp2_with fail
        go_ret
        exact ⟨rfl, k6.out⟩
  · have i1 : (400 : Int) < (a1.size : Int) := by omega
    go_enter Tryd.func3, Tryd.ntmps3
    go_wp2_with fail
    refine (hK'.out _ hm'.out).mono ?_
    rintro e v1 ⟨rfl, hb1⟩
    have k1' := Lib.hid hb1; clear hb1
    go_wp2_with fail
    go_ret
    exact ⟨rfl, k1'.out⟩

/-! ### THE ROW's STEP: WRITTEN OUT: LEAVE IT -/
set_option maxRecDepth 100000 in
theorem lifted (os : Os) (started : os.Started) (H : Type) (enc : TypeId × Value → H) :
    ReturnsInHanded {} Tryd.checked os 3 .any (fun w args => (Rows.helperCallsSpec.pre enc Tryd.prog Tryd.f3 Rows.helperCallsRow.domain false w args ∧ laidMetH Tryd.prog Rows.helperCallsRow.laid w) ∧ sizedMet enc Tryd.prog Tryd.f3 (OpenSpec.ofChange Rows.helperCallsSpec) false w args) (Rows.helperCallsSpec.post enc Tryd.prog Tryd.f3 false true false false) := by
  refine handed_and_shaped (C := Tryd.checked) (X := fun w _ => laidMetH Tryd.prog Rows.helperCallsRow.laid w) (fun _ _ _ hh h => h.of_heap hh) own started (by kernel_rfl) Tryd.func3
    (ChangeSpec.witness_shaped (enc := enc) (C := Tryd.checked) (os := os) (X := fun w _ => laidMetH Tryd.prog Rows.helperCallsRow.laid w) false (World.laidAll Tryd.prog os Rows.helperCallsRow.laid) #[.slice none 0 0, .string ByteArray.empty, .int .i64 0] 8 (World.laidAll_os _ _ _)
      (World.shaped_of_ZipB (by kernel_rfl) (by kernel_rfl)) (by kernel_rfl) (by kernel_rfl) (by kernel_rfl)
      (by rw [MakeChecks.laidMetH_plain _ _ _ (by kernel_rfl)]; exact laidMet_laidAll _ (by kernel_rfl) (by kernel_rfl))) ?_
  intro W base args ds gs before hval0 hW hcnd hsh _
  have hval : ∀ (j : Nat) t v, Tryd.f3.params[j]? = some t → args[j]? = some v → Value.okWide Tryd.prog W .any base t v := hval0
  have hW' := hW
  obtain ⟨p, q, hA0, hV, rfl, hfz, hnd⟩ := hW
  have hA : DataW.TrodAll enc Tryd.prog W 0 (fun _ => true) true Tryd.f3.params.toList args.toList ds p := hA0
  rw [Tryd.params3] at hA hval
  obtain ⟨v0, vs0, d0, ds0, p0, q0, hargs, rfl, rfl, h0, r0⟩ := trodAll_cons hA
  obtain ⟨v1, vs1, d1, ds1, p1, q1, rfl, rfl, rfl, h1, r1⟩ := trodAll_cons r0
  obtain ⟨v2, vs2, d2, ds2, p2, q2, rfl, rfl, rfl, h2, r2⟩ := trodAll_cons r1
  obtain ⟨rfl, rfl, rfl⟩ := trodAll_nil r2
  obtain rfl : args = #[v0, v1, v2] := by cases args; simp_all
  obtain ⟨rfl, rfl⟩ := trodVars_none hV
  obtain ⟨a0, len0, cap0, rfl⟩ := okWide_slice Tryd.underlying22 (hval 0 22 v0 rfl rfl)
  have k0 := h0
  have lt0 : ∀ x ∈ p0, x.block < W.heap.size := by obtain ⟨m, hm⟩ := k0; exact DataW.trod_lt m _ _ _ hm
  obtain ⟨z0, w0⟩ : ∃ zs, IsRow .i64 W a0 len0 cap0 zs := by
    obtain ⟨fuel, hf⟩ := h0
    rcases open_ints Tryd.underlying22 Tryd.underlying3 (by kernel_rfl) hf with ⟨hcs, _⟩ | ⟨x, l, c, zs, hcs, _, hl, hm, hz, _, hcell, hwz⟩
    · simp [Value.cells] at hcs
      obtain ⟨rfl, rfl, rfl⟩ := hcs
      exact ⟨[], .inl ⟨rfl, rfl, rfl, rfl⟩⟩
    · simp [Value.cells] at hcs
      obtain ⟨rfl, rfl, rfl⟩ := hcs
      exact ⟨zs, .inr ⟨_, rfl, hl, hm, by simpa using hz, hcell, hwz⟩⟩
  obtain ⟨a1, rfl, rfl, rfl, w1⟩ := open_string Tryd.underlying9 (hval 1 9 v1 rfl rfl) h1
  obtain ⟨a2, rfl, rfl, rfl, w2⟩ := open_int Tryd.underlying3 (hval 2 3 v2 rfl rfl) h2
  clear hA0 hval0
  obtain ⟨m, hm⟩ := Tryd.laysM143.s1_3 W hsh
  refine (walk a0 len0 cap0 z0 a1 a2 W w0 w1 w2 m hm).mono fun e W' ⟨he, bel⟩ => ?_
  subst he
  exact ⟨_, rfl, _, _, _, [], _, [], hW', trodAll_mk1 (shut_bool Tryd.underlying4 _), (trodAll_cons_mk (Below.trod laidOut (by kernel_rfl) (of_decide_eq_true (by kernel_rfl)) k0 bel lt0) (trodAll_cons_mk (shut_string Tryd.underlying9 w1) (trodAll_cons_mk (shut_int Tryd.underlying3 w2) trodAll_mk0))), rfl, bel.frame _, fun h => by cases h⟩

theorem over : Rows.helperCallsRow.holds Tryd.pinned (OpenSpec.ofChange Rows.helperCallsSpec) :=
  OpenClaim.holds_of_wide 3 Tryd.f3 rfl rfl rfl rfl rfl rfl rfl ⟨rfl, rfl, rfl, rfl, rfl⟩ rfl rfl rfl rfl rfl (by kernel_rfl) Tryd.func3 (by kernel_rfl)
    (of_decide_eq_true (by kernel_rfl)) (by unfold Func.isWrapper; first | (rw [if_pos (by decide +kernel)]; kernel_rfl) | (rw [if_neg (by decide +kernel)]; exact ⟨rfl, rfl⟩))
    (fun os started H enc _ => lifted os started H enc)

/-- ████ THE STATEMENT: THE TIED CARD ████ -/
theorem proved : Rows.HelperCallsCardSaid :=
  Claim7.holds_tied_plain_at .later [] [.data, .pinned] true (true, "976c7b5ca0a6e0b7ae283dd8bbc166f4b8d42aca6b552a348e227aea158a716c") false over (fun _ h => by cases h) (by kernel_rfl) (fun _ h => by cases h) helperCalls_row_tie rfl ⟨rfl, rfl⟩ (by kernel_rfl) rfl
    (fun f fn hf hfn => by
      obtain rfl : f = 3 := Option.some.inj ((show Tryd.prog.funcNamed "coldplug/coldpluglaw14.HelperCalls" = some 3 by kernel_rfl).symm.trans hf) |>.symm
      obtain rfl : fn = Tryd.f3 := (Option.some.inj (Tryd.func3.symm.trans hfn)).symm
      exact ⟨by kernel_rfl, fun j t ht => by
        rw [Tryd.params3] at ht
        have hm : t ∈ [22, 9, 3] := by
          have := Array.mem_of_getElem? ht
          simp at this ⊢
          exact this
        have hall : ([22, 9, 3].all fun u => !Tryd.prog.wantsStandIn u) = true := by kernel_rfl
        exact (show Tryd.prog.wantsStandIn t = false by simpa using List.all_eq_true.1 hall t hm)⟩)
    (by kernel_rfl)
#print axioms proved
end Go.Proofs.YtgjnohkcnfdmkaaDoor.helperCalls
