/-
  The law LexerLong, with the tied card of its row: proved for all inputs, without conditions.
-/
import Derived.Test.YtofemhaepadggaaDoorRows
import Derived.Test.YtofemhaepadggaaDoorCards
import Derived.Test.YtofemhaepadggaaDoorTie
import Derived.Test.YtofemhaepadggaaDoorDoor
import Derived.Test.YtofemhaepadggaaDoorShut
import Derived.Test.YtofemhaepadggaaDoorLexKnown
import Derived.Test.YtofemhaepadggaaDoorLexTape
import Derived.Test.YtofemhaepadggaaDoorLexShelfB
import Derived.WalkKit
import Derived.ProofKit
import Derived.OpenShut
import Derived.ShutString
import Derived.LaidMore
import Derived.Lay
import Derived.SevenTiedAt
import Derived.Stop.Joined
import Derived.ChangeOld
import Derived.Below
import Derived.Laws.AppendOwnNone
namespace Go.Proofs.YtofemhaepadggaaDoor.lexerLong
open Go.ChangeShapes Go.WideShapes Go.ChangeAt Go.RowKit
open Go.ChangeMaps (open_string shut_string)
open Go.Proofs.YtofemhaepadggaaDoor
set_option linter.unusedVariables false      -- a walk need not use every 'w<i>' (that an integer argument fits its kind)

theorem own : ownKnob Tryd.prog.godebug = none := by kernel_rfl

/-! ### STEP 1: THE WALK: the Go text returns true. 'Grown w w'': the world has at most new blocks (Derived/RowKit3.lean). Part the cases AHEAD of 'go_enter' where a test parts the walk; take each callee by a contract of your own. -/
open Go.Proofs.YtofemhaepadggaaDoor in
theorem valGo_rep : ∀ (k : Nat) (acc : List Nat), L.valGo acc (List.replicate k 120 ++ [34]) = (acc ++ List.replicate k 120, [], 0)
  | 0, acc => by
    rw [List.replicate_zero, List.nil_append, valGo_q, List.append_nil]
  | k + 1, acc => by
    rw [List.replicate_succ, List.cons_append, valGo_c _ _ _ (by decide) (by decide) (by rfl), valGo_rep k, List.append_assoc]
    rfl
/-- The line of the law. -/
def longL (k : Nat) : List Nat := 65 :: 61 :: 34 :: (List.replicate k 120 ++ [34])
open Go.Proofs.YtofemhaepadggaaDoor in
theorem long_tok (k : Nat) : L.tokS (longL k) = (⟨[65], [], [61], List.replicate k 120⟩, [], 0) := by
  have h0 : L.cnt L.letter (longL k) = 1 := rfl
  unfold L.tokS
  rw [h0]
  have h1 : (longL k).drop 1 = 61 :: 34 :: (List.replicate k 120 ++ [34]) := rfl
  have h2 : L.nameS (61 :: 34 :: (List.replicate k 120 ++ [34])) = ([], 61 :: 34 :: (List.replicate k 120 ++ [34]), 0) := rfl
  have h3 : L.opS (61 :: 34 :: (List.replicate k 120 ++ [34])) = ([61], 34 :: (List.replicate k 120 ++ [34]), 0) := rfl
  have h4 : L.valS (34 :: (List.replicate k 120 ++ [34])) = (List.replicate k 120, [], 0) := by
    show L.valGo [] (List.replicate k 120 ++ [34]) = _
    rw [valGo_rep, List.nil_append]
  rw [h1, h2]
  dsimp only
  rw [h3]
  dsimp only
  rw [h4]
  rfl
open Go.Proofs.YtofemhaepadggaaDoor in
theorem long_toks (k : Nat) : L.tokensS (longL k) = if 1020 < k then ([], 81) else ([⟨[65], [], [61], List.replicate k 120⟩], 0) := by
  unfold L.tokensS
  have hl : (longL k).length = k + 4 := by simp [longL]
  rw [hl]
  by_cases h : 1020 < k
  · rw [if_pos h, if_pos (by omega)]
  · rw [if_neg h, if_neg (by omega)]
    have ha : (longL k).all L.plainB = true := by
      simp [longL, List.all_append, L.plainB]
    rw [if_neg (by rw [ha]; simp), tokGo_succ]
    have hd : (longL k).dropWhile L.sepL = longL k := rfl
    rw [hd, if_neg (by simp [longL]), if_neg (by simp), long_tok, if_neg (by simp), tokGo_succ, if_pos (show ([] : List Nat).dropWhile L.sepL = [] from rfl)]
    rfl

open Go.Proofs.YtofemhaepadggaaDoor in
set_option maxRecDepth 100000 in
set_option maxHeartbeats 4000000 in
theorem walk (a0 : Int) (w0 : (Lit.int .i64 a0).wf = true) (w : World) (m : Int) (hm : w.cell? ⟨0, 0, none⟩ = some (.int .i64 m)) :
    Calls Tryd.prog 8 #[.int .i64 a0] w fun e w' => e = .returned (.bool true) ∧ Below w.heap.size w w' := by
  have h0lt : 0 < w.heap.size := World.block_lt_of_cell? w _ hm
  have hK' := Lib.hid (fun W hW => lknown_any W m hW)
  have hm' := Lib.hid hm; clear hm
  have hF' := Lib.hid (fun W => fold_any a0 9 (by omega) (by omega) W)
  go_enter Tryd.func8, Tryd.ntmps8
  go_wp2_with fail
  refine (hF'.out _).mono ?_
  rintro e v0 ⟨⟨n, hn, rfl⟩, rfl⟩
  have hR : ∀ W, Calls Tryd.prog 16 #[.string ⟨#[120]⟩, .int .i64 (1016 + (n : Int))] W fun e w' => (∃ R : ByteArray, e = .returned (.string R) ∧ bs R = List.replicate (1016 + n) 120) ∧ Below W.heap.size W w' := fun W => by
    have h := Tryd.strings_Repeat ⟨#[120]⟩ (1016 + n) W (by omega) (by show 1 * _ ≤ _; omega)
    rw [show ((1016 + n : Nat) : Int) = 1016 + (n : Int) from by omega] at h
    refine h.mono ?_
    rintro e w' ⟨rfl, hb⟩
    refine ⟨⟨_, rfl, ?_⟩, hb⟩
    have h1 := Lib.repeatL_replicate 120 1 (1016 + n)
    rw [Nat.mul_one] at h1
    rw [bs_of]
    show (Lib.repeatL (List.replicate 1 120) (1016 + n)).map UInt8.toNat = _
    rw [h1, List.map_replicate]
    rfl
  have hR' := Lib.hid hR; clear hR hF'
  go_wp2_with fail
  refine (hR'.out _).mono ?_
  rintro e v1 ⟨⟨R, rfl, hRb⟩, hb1⟩
  have hRs : R.size = 1016 + n := by rw [← length_bs, hRb, List.length_replicate]
  have k1 := Lib.hid hb1; clear hb1 hR'
  have hz1 : (⟨#[65, 61, 34]⟩ : ByteArray).size = 3 := rfl
  have hz2 : (⟨#[34]⟩ : ByteArray).size = 1 := rfl
  have hsl : ((⟨#[65, 61, 34]⟩ : ByteArray) ++ R ++ ⟨#[34]⟩).size = 1020 + n := by
    rw [ByteArray.size_append, ByteArray.size_append]; omega
  have hsb : bs ((⟨#[65, 61, 34]⟩ : ByteArray) ++ R ++ ⟨#[34]⟩) = longL (1016 + n) := by
    have e : ∀ a b : ByteArray, bs (a ++ b) = bs a ++ bs b := fun a b => by simp [bs]
    rw [e, e, hRb]
    rfl
  have hT := fun W => tokens_any ((⟨#[65, 61, 34]⟩ : ByteArray) ++ R ++ ⟨#[34]⟩) W
  rw [hsb, long_toks] at hT
  obtain ⟨S, hS⟩ : ∃ S, (⟨#[65, 61, 34]⟩ : ByteArray) ++ R ++ ⟨#[34]⟩ = S := ⟨_, rfl⟩
  rw [hS] at hT hsl
  have hT' := Lib.hid hT; clear hT hsb hRb
  have hS' := Lib.hid hS; clear hS hz1 hz2
  have hsl' := Lib.hid hsl; clear hsl
  have hRs' := Lib.hid hRs
  have hR1 : R.size ≤ 1024 := by omega
  clear hRs
  go_upto_region 3 with fail
  rw [hS'.out]
  clear hS' hRs' hR1
  have hsl := hsl'.out
  clear hsl'
  by_cases h4 : 4 < n
  · have hT2 := hT'.out
    rw [if_pos (by omega)] at hT2
    have hT3 := Lib.hid hT2; clear hT2 hT'
    have i4 : (1024 : Int) < (S.size : Int) := by omega
    clear hsl h4
    go_wp2_with fail
    refine (hT3.out _).mono ?_
    rintro e v2 ⟨⟨v, l, rfl, hl, hTk⟩, hb2⟩
    have k2 := Lib.hid (k1.out.trans (hb2.mono k1.out.size))
    have m2 := Lib.hid ((World.cell?_of_block (k2.out.block 0 h0lt)).trans hm'.out)
    have hl0 : l = [] := by simpa using hl
    subst hl0
    obtain ⟨p, c, rfl, _⟩ := hTk.shape
    clear hTk hb2 hl k1
    go_wp2_with fail
    refine (hK'.out _ m2.out).mono ?_
    rintro e v3 ⟨rfl, hb3⟩
    have k3 := Lib.hid (k2.out.trans (hb3.mono k2.out.size)); clear hb3
    go_wp2_with fail
    go_ret
    exact ⟨rfl, k3.out⟩
  · have hT2 := hT'.out
    rw [if_neg (by omega)] at hT2
    have hT3 := Lib.hid hT2; clear hT2 hT'
    have i4 : ¬ (1024 : Int) < (S.size : Int) := by omega
    clear hsl h4
    go_wp2_with fail
    refine (hT3.out _).mono ?_
    rintro e v2 ⟨⟨v, l, rfl, hl, hTk⟩, hb2⟩
    have k2 := Lib.hid (k1.out.trans (hb2.mono k1.out.size))
    have m2 := Lib.hid ((World.cell?_of_block (k2.out.block 0 h0lt)).trans hm'.out)
    obtain ⟨x, rfl, hx⟩ : ∃ x : TB, l = [x] ∧ bs x.v = List.replicate (1016 + n) 120 := by
      cases l with
      | nil => simp at hl
      | cons x t =>
        simp only [List.map_cons, List.cons.injEq, List.map_eq_nil_iff] at hl
        obtain ⟨h1, rfl⟩ := hl
        exact ⟨x, rfl, by unfold TB.tok at h1; injection h1⟩
    have hxs : (x.v.size : Int) = 1016 + (n : Int) := by
      have := length_bs x.v
      rw [hx, List.length_replicate] at this
      omega
    obtain ⟨p, c, rfl, hsh⟩ := hTk.shape
    obtain ⟨g, rfl, hg, hc⟩ := hsh (by simp)
    have c3 := (hc 0 _ rfl).2.2.2
    clear hTk hb2 hl k1 hsh hc hx
    simp only [Nat.zero_mul, Nat.zero_add] at c3
    go_wp2_with fail
    refine (hK'.out _ m2.out).mono ?_
    rintro e v3 ⟨rfl, hb3⟩
    have k3 := Lib.hid (k2.out.trans (hb3.mono k2.out.size)); clear hb3
    go_wp2_with fail
    go_ret
    exact ⟨rfl, k3.out⟩

/-! ### THE ROW's STEP: WRITTEN OUT: LEAVE IT -/
set_option maxRecDepth 100000 in
theorem lifted (os : Os) (started : os.Started) (H : Type) (enc : TypeId × Value → H) :
    ReturnsInHanded {} Tryd.checked os 8 .any (fun w args => (Rows.lexerLongSpec.pre enc Tryd.prog Tryd.f8 Rows.lexerLongRow.domain false w args ∧ laidMetH Tryd.prog Rows.lexerLongRow.laid w) ∧ sizedMet enc Tryd.prog Tryd.f8 (OpenSpec.ofChange Rows.lexerLongSpec) false w args) (Rows.lexerLongSpec.post enc Tryd.prog Tryd.f8 false true false false) := by
  refine handed_and_shaped (C := Tryd.checked) (X := fun w _ => laidMetH Tryd.prog Rows.lexerLongRow.laid w) (fun _ _ _ hh h => h.of_heap hh) own started (by kernel_rfl) Tryd.func8
    (ChangeSpec.witness_shaped (enc := enc) (C := Tryd.checked) (os := os) (X := fun w _ => laidMetH Tryd.prog Rows.lexerLongRow.laid w) false (World.laidAll Tryd.prog os Rows.lexerLongRow.laid) #[.int .i64 0] 8 (World.laidAll_os _ _ _)
      (World.shaped_of_ZipB (by kernel_rfl) (by kernel_rfl)) (by kernel_rfl) (by kernel_rfl) (by kernel_rfl)
      (by rw [MakeChecks.laidMetH_plain _ _ _ (by kernel_rfl)]; exact laidMet_laidAll _ (by kernel_rfl) (by kernel_rfl))) ?_
  intro W base args ds gs before hval0 hW hcnd hsh _
  have hval : ∀ (j : Nat) t v, Tryd.f8.params[j]? = some t → args[j]? = some v → Value.okWide Tryd.prog W .any base t v := hval0
  have hW' := hW
  obtain ⟨p, q, hA0, hV, rfl, hfz, hnd⟩ := hW
  have hA : DataW.TrodAll enc Tryd.prog W 0 (fun _ => true) true Tryd.f8.params.toList args.toList ds p := hA0
  rw [Tryd.params8] at hA hval
  obtain ⟨v0, vs0, d0, ds0, p0, q0, hargs, rfl, rfl, h0, r0⟩ := trodAll_cons hA
  obtain ⟨rfl, rfl, rfl⟩ := trodAll_nil r0
  obtain rfl : args = #[v0] := by cases args; simp_all
  obtain ⟨rfl, rfl⟩ := trodVars_none hV
  obtain ⟨a0, rfl, rfl, rfl, w0⟩ := open_int Tryd.underlying3 (hval 0 3 v0 rfl rfl) h0
  clear hA0 hval0
  simp only [List.append_nil] at hW'
  obtain ⟨m, hm⟩ := Tryd.laysM143.s1_3 W hsh
  refine (walk a0 w0 W m hm).mono fun e W' ⟨he, hg⟩ => ?_
  subst he
  exact ⟨_, rfl, post_texts hW' (fun _ _ _ => (trodAll_cons_mk (shut_bool Tryd.underlying4 _) trodAll_mk0)) (fun sp => (trodAll_cons_mk (shut_int Tryd.underlying3 w0) trodAll_mk0)) (fun _ => rfl)
    hg (ok_one (by kernel_rfl) rfl (okWide_bool_mk Tryd.underlying4 _))⟩

theorem over : Rows.lexerLongRow.holds Tryd.pinned (OpenSpec.ofChange Rows.lexerLongSpec) :=
  OpenClaim.holds_of_wide 8 Tryd.f8 rfl rfl rfl rfl rfl rfl rfl ⟨rfl, rfl, rfl, rfl, rfl⟩ rfl rfl rfl rfl rfl (by kernel_rfl) Tryd.func8 (by kernel_rfl)
    (of_decide_eq_true (by kernel_rfl)) (by unfold Func.isWrapper; first | (rw [if_pos (by decide +kernel)]; kernel_rfl) | (rw [if_neg (by decide +kernel)]; exact ⟨rfl, rfl⟩))
    (fun os started H enc _ => lifted os started H enc)

/-- ████ THE STATEMENT: THE TIED CARD ████ -/
theorem proved : Rows.LexerLongCardSaid :=
  Claim7.holds_tied_plain_at .later [] [.data, .pinned] true (true, "d802cc47a91f01ff99b42efe3e5faa499c9dd62bc719bdb57b0c9f4495fbecae") false over (fun _ h => by cases h) (by kernel_rfl) (fun _ h => by cases h) lexerLong_row_tie rfl ⟨rfl, rfl⟩ (by kernel_rfl) rfl
    (fun f fn hf hfn => by
      obtain rfl : f = 8 := Option.some.inj ((show Tryd.prog.funcNamed "coldplug/coldpluglaw08.LexerLong" = some 8 by kernel_rfl).symm.trans hf) |>.symm
      obtain rfl : fn = Tryd.f8 := (Option.some.inj (Tryd.func8.symm.trans hfn)).symm
      exact ⟨by kernel_rfl, fun j t ht => by
        rw [Tryd.params8] at ht
        have hm : t ∈ [3] := by
          have := Array.mem_of_getElem? ht
          simp at this ⊢
          exact this
        have hall : ([3].all fun u => !Tryd.prog.wantsStandIn u) = true := by kernel_rfl
        exact (show Tryd.prog.wantsStandIn t = false by simpa using List.all_eq_true.1 hall t hm)⟩)
    (by kernel_rfl)
#print axioms proved
end Go.Proofs.YtofemhaepadggaaDoor.lexerLong
