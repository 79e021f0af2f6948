/-
  The law LexerTokens, with the tied card of its row: proved for all inputs, without conditions.
-/
import Derived.Test.YtofemhaepadggaaDoorRows
import Derived.Test.YtofemhaepadggaaDoorCards
import Derived.Test.YtofemhaepadggaaDoorTie
import Derived.Test.YtofemhaepadggaaDoorDoor
import Derived.Test.YtofemhaepadggaaDoorShut
import Derived.Test.YtofemhaepadggaaDoorLexLaw
import Derived.WalkKit
import Derived.ProofKit
import Derived.OpenShut
import Derived.ShutString
import Derived.LaidMore
import Derived.Lay
import Derived.SevenTiedAt
import Derived.Stop.Joined
import Derived.ChangeOld
import Derived.Below
import Derived.Laws.AppendOwnNone
namespace Go.Proofs.YtofemhaepadggaaDoor.lexerTokens
open Go.ChangeShapes Go.WideShapes Go.ChangeAt Go.RowKit
open Go.ChangeMaps (open_string shut_string)
open Go.Proofs.YtofemhaepadggaaDoor
set_option linter.unusedVariables false

theorem own : ownKnob Tryd.prog.godebug = none := by kernel_rfl
theorem laidOut : laidOutB Tryd.prog = true := by kernel_rfl

/-- WHAT THE WALK IS TOLD OF A SLICE OF INTEGERS THAT CAME IN: it is nil; or it leads to a row of 'cap' cells, the numbers 'zs' (the first 'len' are its elements, the rest its spare room), each fitting its kind. -/
def IsRow (k : IntKind) (w : World) (a : Option Addr) (len cap : Nat) (zs : List Int) : Prop :=
  (a = none ∧ len = 0 ∧ cap = 0 ∧ zs = []) ∨
  ∃ x, a = some x ∧ len ≤ cap ∧ cap ≤ maxLen ∧ zs.length = cap ∧ (∀ i, i < zs.length → w.cell? (x.add i) = some (.int k (zs.getD i 0))) ∧ ∀ n ∈ zs, (Lit.int k n).wf = true

/-! ### STEP 1: THE WALK: the Go text returns true, AND WRITES NOTHING THAT WAS THERE: 'Below w.heap.size w w'' (Derived/Below.lean: '.refl', '.alloc', '.drew', '.setCell' at a new block, '.trans'). Open each 'IsRow' by 'rcases' AHEAD of 'go_enter'; part every test ahead of the walk. -/
theorem row_reads {w : World} {a : Option Addr} {n c : Nat} {z : List Int} (h : IsRow .i64 w a n c z) : 0 < n → ∃ x : Addr, a = some x ∧ ∀ i, i < n → ∃ z : Int, w.cell? (x.add i) = some (.int .i64 z) := by
  intro hn
  rcases h with ⟨_, h0, _⟩ | ⟨x, e, hle, _, hz, hc, _⟩
  · omega
  · exact ⟨x, e, fun i hi => ⟨_, hc i (by omega)⟩⟩

open Go.Proofs.YtofemhaepadggaaDoor in
set_option maxRecDepth 100000 in
set_option maxHeartbeats 4000000 in
theorem walk (a0 : ByteArray) (a1 : Option Addr) (len1 cap1 : Nat) (z1 : List Int) (w : World) (w0 : a0.size ≤ maxLen) (w1 : IsRow .i64 w a1 len1 cap1 z1) (m : Int) (hm : w.cell? ⟨0, 0, none⟩ = some (.int .i64 m)) :
    Calls Tryd.prog 7 #[.string a0, .slice a1 len1 cap1] w fun e w' => e = .returned (.bool true) ∧ Below w.heap.size w w' := by
  have h0lt : 0 < w.heap.size := World.block_lt_of_cell? w _ hm
  have hT0 := tape_new a1 len1 cap1 w (row_reads w1)
  have hK' := Lib.hid (fun W hW => lknown_any W m hW)
  have hT0' := Lib.hid hT0; clear hT0 w1
  have hm' := Lib.hid hm; clear hm
  by_cases s0 : a0.size ≤ 2000
  · have i0 : ¬ (2000 : Int) < (a0.size : Int) := by omega
    go_enter Tryd.func7, Tryd.ntmps7
    go_wp2_with fail
    refine (line_any w.heap.size w.heap.size 0 m _ hT0'.out (by omega) ((World.cell?_of_block (Below.heap_alloc w _ 0 h0lt)).trans hm'.out) (by omega)).mono ?_
    rintro e v1 ⟨⟨s, rfl, hs⟩, _, hO⟩
    have hb1 : Hid (Below w.heap.size w v1) := (((Only.refl (fun j => j = w.heap.size) w).alloc _).trans hO).below (fun j e => by have e : j = w.heap.size := e; omega) (Nat.le_refl _)
    have hcs := Lib.hid (two_cells a0 s v1 9)
    have hb2 : Hid (Below w.heap.size w (v1.alloc (.cells #[.string a0, .string s] 9))) := hb1.out.alloc hb1.out.size _
    have hb2b : Hid (v1.heap.size < (v1.alloc (.cells #[.string a0, .string s] 9)).heap.size) := by
      show v1.heap.size < _
      simp
    clear hO hb1 hT0'
    go_upto_region 4 with fail
    generalize v1.alloc (.cells #[.string a0, .string s] 9) = v2 at *
    have keep : Hid (∀ W, Below v2.heap.size v2 W → Below w.heap.size w W ∧ W.cell? ⟨0, 0, none⟩ = some (.int .i64 m)) := fun W h => by
      have h1 := hb2.out.trans (h.mono hb2.out.size)
      exact ⟨h1, (World.cell?_of_block (h1.block 0 h0lt)).trans hm'.out⟩
    clear hb2 hm'
    go_wp2_with fail
    go_loopw [6] (fun s6 wr => ∃ k : Nat, s6 = .int .i64 k ∧ k ≤ 2 ∧ Hid (Below v2.heap.size v2 wr)) (fun s6 _ => 2 - (intOf s6).toNat)
    case atStart => exact ⟨0, rfl, by omega, Below.refl _ _⟩
    case round =>
      obtain ⟨k, rfl, hk, hb⟩ := hrel
      by_cases hk2 : k < 2
      · obtain ⟨t, _, hc⟩ := hcs.out k hk2
        have ik : (k : Int) < 2 := by omega
        have ik0 : (0 : Int) ≤ (k : Int) := by omega
        have c0 : wr.cell? ⟨v1.heap.size, k, none⟩ = some (.string t) := (World.cell?_of_block (hb.out.block v1.heap.size hb2b.out)).trans hc
        have hA := fun W => tokens_any t W
        have hB := fun W => rtokens_any t W
        have hl := tokensS_len (bs t)
        generalize L.tokensS (bs t) = R at *
        have hA' := Lib.hid hA; clear hA
        have hB' := Lib.hid hB; clear hB hc
        go_wp2_with fail
        refine (hA'.out _).mono ?_
        rintro e v3 ⟨⟨va, la, rfl, hla, hTa⟩, hb3⟩
        have hb3' : Hid (Below v2.heap.size v2 v3) := hb.out.trans (hb3.mono hb.out.size)
        have c1 : v3.cell? ⟨v1.heap.size, k, none⟩ = some (.string t) := (World.cell?_of_block (hb3.block v1.heap.size (by have := hb.out.size; have := hb2b.out; omega))).trans c0
        have hTa' := Lib.hid hTa
        clear hb3 hb hTa c0
        go_wp2_with fail
        refine (hB'.out _).mono ?_
        rintro e v4 ⟨⟨vb, lb, rfl, hlb, hTb⟩, hb4⟩
        have hb4' : Hid (Below v2.heap.size v2 v4) := hb3'.out.trans (hb4.mono hb3'.out.size)
        have hTa4 : Toks v4 _ va la := own_below hTa'.out hb4
        obtain rfl : la = lb := toks_inj (hla.trans hlb.symm)
        have hll : la.length ≤ 1000000000 := by
          have : la.length = R.1.length := by rw [← hla, List.length_map]
          omega
        have hS0 := sameT_any la la va vb _ _ v4 hTa4 hTb hll
        rw [decide_eq_true (rfl : la = la)] at hS0
        have hS := Lib.hid hS0; clear hS0
        clear hb4 hb3' hTa4 hTb hTa' hla hlb hA' hB' c1
        have er : (R.2 == R.2) = true := by simp
        go_wp2_with fail
        refine hS.out.mono ?_
        rintro e v5 ⟨rfl, hb5⟩
        have hb5' : Hid (Below v2.heap.size v2 v5) := hb4'.out.trans (hb5.mono hb4'.out.size)
        clear hb5 hb4' hS
        go_wp2_with fail
        go_roundw
        case rel => exact ⟨k + 1, by go_num, by omega, hb5'⟩
        case measure => simp [intOf]; omega
      · obtain rfl : k = 2 := by omega
        obtain ⟨k1, m1⟩ := keep.out wr hb.out
        have k1' := Lib.hid k1; clear k1
        have m1' := Lib.hid m1; clear m1
        go_wp2_with fail
        refine (hK'.out _ m1'.out).mono ?_
        rintro e v3 ⟨rfl, hb3⟩
        have k3 := Lib.hid (k1'.out.trans (hb3.mono k1'.out.size)); clear hb3
        go_wp2_with fail
        go_ret
        exact ⟨rfl, k3.out⟩
  · have i0 : (2000 : Int) < (a0.size : Int) := by omega
    go_enter Tryd.func7, Tryd.ntmps7
    go_wp2_with fail
    refine (hK'.out _ hm'.out).mono ?_
    rintro e v1 ⟨rfl, hb1⟩
    have k1' := Lib.hid hb1; clear hb1
    go_wp2_with fail
    go_ret
    exact ⟨rfl, k1'.out⟩

/-! ### THE ROW's STEP: WRITTEN OUT: LEAVE IT -/
set_option maxRecDepth 100000 in
theorem lifted (os : Os) (started : os.Started) (H : Type) (enc : TypeId × Value → H) :
    ReturnsInHanded {} Tryd.checked os 7 .any (fun w args => (Rows.lexerTokensSpec.pre enc Tryd.prog Tryd.f7 Rows.lexerTokensRow.domain false w args ∧ laidMetH Tryd.prog Rows.lexerTokensRow.laid w) ∧ sizedMet enc Tryd.prog Tryd.f7 (OpenSpec.ofChange Rows.lexerTokensSpec) false w args) (Rows.lexerTokensSpec.post enc Tryd.prog Tryd.f7 false true false false) := by
  refine handed_and_shaped (C := Tryd.checked) (X := fun w _ => laidMetH Tryd.prog Rows.lexerTokensRow.laid w) (fun _ _ _ hh h => h.of_heap hh) own started (by kernel_rfl) Tryd.func7
    (ChangeSpec.witness_shaped (enc := enc) (C := Tryd.checked) (os := os) (X := fun w _ => laidMetH Tryd.prog Rows.lexerTokensRow.laid w) false (World.laidAll Tryd.prog os Rows.lexerTokensRow.laid) #[.string ByteArray.empty, .slice none 0 0] 8 (World.laidAll_os _ _ _)
      (World.shaped_of_ZipB (by kernel_rfl) (by kernel_rfl)) (by kernel_rfl) (by kernel_rfl) (by kernel_rfl)
      (by rw [MakeChecks.laidMetH_plain _ _ _ (by kernel_rfl)]; exact laidMet_laidAll _ (by kernel_rfl) (by kernel_rfl))) ?_
  intro W base args ds gs before hval0 hW hcnd hsh _
  have hval : ∀ (j : Nat) t v, Tryd.f7.params[j]? = some t → args[j]? = some v → Value.okWide Tryd.prog W .any base t v := hval0
  have hW' := hW
  obtain ⟨p, q, hA0, hV, rfl, hfz, hnd⟩ := hW
  have hA : DataW.TrodAll enc Tryd.prog W 0 (fun _ => true) true Tryd.f7.params.toList args.toList ds p := hA0
  rw [Tryd.params7] at hA hval
  obtain ⟨v0, vs0, d0, ds0, p0, q0, hargs, rfl, rfl, h0, r0⟩ := trodAll_cons hA
  obtain ⟨v1, vs1, d1, ds1, p1, q1, rfl, rfl, rfl, h1, r1⟩ := trodAll_cons r0
  obtain ⟨rfl, rfl, rfl⟩ := trodAll_nil r1
  obtain rfl : args = #[v0, v1] := by cases args; simp_all
  obtain ⟨rfl, rfl⟩ := trodVars_none hV
  obtain ⟨a0, rfl, rfl, rfl, w0⟩ := open_string Tryd.underlying9 (hval 0 9 v0 rfl rfl) h0
  obtain ⟨a1, len1, cap1, rfl⟩ := okWide_slice Tryd.underlying22 (hval 1 22 v1 rfl rfl)
  have k1 := h1
  have lt1 : ∀ x ∈ p1, x.block < W.heap.size := by obtain ⟨m, hm⟩ := k1; exact DataW.trod_lt m _ _ _ hm
  obtain ⟨z1, w1⟩ : ∃ zs, IsRow .i64 W a1 len1 cap1 zs := by
    obtain ⟨fuel, hf⟩ := h1
    rcases open_ints Tryd.underlying22 Tryd.underlying3 (by kernel_rfl) hf with ⟨hcs, _⟩ | ⟨x, l, c, zs, hcs, _, hl, hm, hz, _, hcell, hwz⟩
    · simp [Value.cells] at hcs
      obtain ⟨rfl, rfl, rfl⟩ := hcs
      exact ⟨[], .inl ⟨rfl, rfl, rfl, rfl⟩⟩
    · simp [Value.cells] at hcs
      obtain ⟨rfl, rfl, rfl⟩ := hcs
      exact ⟨zs, .inr ⟨_, rfl, hl, hm, by simpa using hz, hcell, hwz⟩⟩
  clear hA0 hval0
  obtain ⟨m, hm⟩ := Tryd.laysM143.s1_3 W hsh
  refine (walk a0 a1 len1 cap1 z1 W w0 w1 m hm).mono fun e W' ⟨he, bel⟩ => ?_
  subst he
  exact ⟨_, rfl, _, _, _, [], _, [], hW', trodAll_mk1 (shut_bool Tryd.underlying4 _), (trodAll_cons_mk (shut_string Tryd.underlying9 w0) (trodAll_cons_mk (Below.trod laidOut (by kernel_rfl) (of_decide_eq_true (by kernel_rfl)) k1 bel lt1) trodAll_mk0)), rfl, bel.frame _, fun h => by cases h⟩

theorem over : Rows.lexerTokensRow.holds Tryd.pinned (OpenSpec.ofChange Rows.lexerTokensSpec) :=
  OpenClaim.holds_of_wide 7 Tryd.f7 rfl rfl rfl rfl rfl rfl rfl ⟨rfl, rfl, rfl, rfl, rfl⟩ rfl rfl rfl rfl rfl (by kernel_rfl) Tryd.func7 (by kernel_rfl)
    (of_decide_eq_true (by kernel_rfl)) (by unfold Func.isWrapper; first | (rw [if_pos (by decide +kernel)]; kernel_rfl) | (rw [if_neg (by decide +kernel)]; exact ⟨rfl, rfl⟩))
    (fun os started H enc _ => lifted os started H enc)

/-- ████ THE STATEMENT: THE TIED CARD ████ -/
theorem proved : Rows.LexerTokensCardSaid :=
  Claim7.holds_tied_plain_at .later [] [.data, .pinned] true (true, "d802cc47a91f01ff99b42efe3e5faa499c9dd62bc719bdb57b0c9f4495fbecae") false over (fun _ h => by cases h) (by kernel_rfl) (fun _ h => by cases h) lexerTokens_row_tie rfl ⟨rfl, rfl⟩ (by kernel_rfl) rfl
    (fun f fn hf hfn => by
      obtain rfl : f = 7 := Option.some.inj ((show Tryd.prog.funcNamed "coldplug/coldpluglaw08.LexerTokens" = some 7 by kernel_rfl).symm.trans hf) |>.symm
      obtain rfl : fn = Tryd.f7 := (Option.some.inj (Tryd.func7.symm.trans hfn)).symm
      exact ⟨by kernel_rfl, fun j t ht => by
        rw [Tryd.params7] at ht
        have hm : t ∈ [9, 22] := by
          have := Array.mem_of_getElem? ht
          simp at this ⊢
          exact this
        have hall : ([9, 22].all fun u => !Tryd.prog.wantsStandIn u) = true := by kernel_rfl
        exact (show Tryd.prog.wantsStandIn t = false by simpa using List.all_eq_true.1 hall t hm)⟩)
    (by kernel_rfl)
#print axioms proved
end Go.Proofs.YtofemhaepadggaaDoor.lexerTokens
