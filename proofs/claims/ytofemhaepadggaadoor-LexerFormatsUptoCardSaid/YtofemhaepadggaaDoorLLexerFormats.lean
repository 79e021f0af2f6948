/-
  The law LexerFormats, with the tied card of its second form: proved where what it reads is of bulk at most 1048576.
-/
import Derived.Test.YtofemhaepadggaaDoorRows
import Derived.Test.YtofemhaepadggaaDoorCards
import Derived.Test.YtofemhaepadggaaDoorTie
import Derived.Test.YtofemhaepadggaaDoorDoor
import Derived.Test.YtofemhaepadggaaDoorShut
import Derived.Test.YtofemhaepadggaaDoorLexRaw
import Derived.WalkKit
import Derived.ProofKit
import Derived.OpenShut
import Derived.ShutString
import Derived.LaidMore
import Derived.Lay
import Derived.SevenTiedAt
import Derived.Stop.Joined
import Derived.ChangeOld
import Derived.Below
import Derived.Laws.AppendOwnNone
namespace Go.Proofs.YtofemhaepadggaaDoor.lexerFormats
open Go.ChangeShapes Go.WideShapes Go.ChangeAt Go.RowKit
open Go.ChangeMaps (open_string shut_string)
open Go.Proofs.YtofemhaepadggaaDoor
set_option linter.unusedVariables false

theorem own : ownKnob Tryd.prog.godebug = none := by kernel_rfl
theorem laidOut : laidOutB Tryd.prog = true := by kernel_rfl

/-- WHAT THE WALK IS TOLD OF A SLICE OF INTEGERS THAT CAME IN: it is nil; or it leads to a row of 'cap' cells, the numbers 'zs' (the first 'len' are its elements, the rest its spare room), each fitting its kind. -/
def IsRow (k : IntKind) (w : World) (a : Option Addr) (len cap : Nat) (zs : List Int) : Prop :=
  (a = none ∧ len = 0 ∧ cap = 0 ∧ zs = []) ∨
  ∃ x, a = some x ∧ len ≤ cap ∧ cap ≤ maxLen ∧ zs.length = cap ∧ (∀ i, i < zs.length → w.cell? (x.add i) = some (.int k (zs.getD i 0))) ∧ ∀ n ∈ zs, (Lit.int k n).wf = true

/-! ### STEP 1: THE WALK: the Go text returns true, AND WRITES NOTHING THAT WAS THERE: 'Below w.heap.size w w'' (Derived/Below.lean: '.refl', '.alloc', '.drew', '.setCell' at a new block, '.trans'). Open each 'IsRow' by 'rcases' AHEAD of 'go_enter'; part every test ahead of the walk. -/
theorem row_reads {w : World} {a : Option Addr} {n c : Nat} {z : List Int} (h : IsRow .i64 w a n c z) : 0 < n → ∃ x : Addr, a = some x ∧ ∀ i, i < n → ∃ z : Int, w.cell? (x.add i) = some (.int .i64 z) := by
  intro hn
  rcases h with ⟨_, h0, _⟩ | ⟨x, e, hle, _, hz, hc, _⟩
  · omega
  · exact ⟨x, e, fun i hi => ⟨_, hc i (by omega)⟩⟩

open Go.Proofs.YtofemhaepadggaaDoor in
set_option maxRecDepth 100000 in
set_option maxHeartbeats 4000000 in
theorem walk (a0 : Option Addr) (len0 cap0 : Nat) (l0 : List TB) (a1 : Option Addr) (len1 cap1 : Nat) (z1 : List Int) (w : World) (hl0 : l0.length = len0) (w0 : TokRow w (.slice a0 len0 cap0) l0)
    (f0 : ∀ y ∈ l0, y.k.size ≤ 1048576 ∧ y.n.size ≤ 1048576 ∧ y.o.size ≤ 1048576 ∧ y.v.size ≤ 1048576) (w1 : IsRow .i64 w a1 len1 cap1 z1) (m : Int) (hm : w.cell? ⟨0, 0, none⟩ = some (.int .i64 m)) :
    Calls Tryd.prog 4 #[.slice a0 len0 cap0, .slice a1 len1 cap1] w fun e w' => e = .returned (.bool true) ∧ Below w.heap.size w w' := by
  have h0lt : 0 < w.heap.size := World.block_lt_of_cell? w _ hm
  have hK' := Lib.hid (fun W hW => lknown_any W m hW)
  by_cases s0 : len0 ≤ 30
  · have i0 : ¬ (30 : Int) < (len0 : Int) := by omega
    have hT0 := tape_new a1 len1 cap1 w (row_reads w1)
    have hAt0 : Hid (TokAt w (.slice a0 len0 cap0) l0) := ⟨by omega, w0⟩
    have hF0 : Hid (∀ y ∈ l0, Fit y) := f0
    have keepm : Hid (∀ W, Below w.heap.size w W → W.cell? ⟨0, 0, none⟩ = some (.int .i64 m)) := fun W hb => (World.cell?_of_block (hb.block 0 h0lt)).trans hm
    have hG := Lib.hid (gtokens_any w.heap.size w.heap.size 0 true _ hT0 (by omega))
    clear hm hT0 w1 w0 f0 hl0
    have hOa : Hid (Only (fun j => j = w.heap.size) w (w.alloc (.cells #[.slice a1 len1 cap1, .int .i64 0] 25))) := (Only.refl _ w).alloc _
    have hBs : Hid (w.heap.size < (w.alloc (.cells #[.slice a1 len1 cap1, .int .i64 0] 25)).heap.size) := by
      show w.heap.size < (Array.push _ _).size
      rw [Array.size_push]; omega
    go_enter Tryd.func4, Tryd.ntmps4
    go_wp2_with fail
    refine hG.out.mono ?_
    rintro e v2 ⟨l, v, q, rfl, hl4, hsm, _, hq, hTk, hTx, hOx⟩
    generalize w.alloc (.cells #[.slice a1 len1 cap1, .int .i64 0] 25) = W1 at *
    have hT2 := Lib.hid hTx
    have hO2 := Lib.hid (hOa.out.trans hOx)
    have hF1 : Hid (∀ y ∈ l, Fit y) := fun y hy => (hsm y hy).fit
    have hTk' := Lib.hid hTk
    have hgv : Hid (∀ j, v.ownBlock = some j → w.heap.size < j) := fun j hj => Nat.lt_of_lt_of_le hBs.out (World.ownsRow.lt hTk j hj).1
    obtain ⟨pv, cv, hvv, hsh⟩ := Toks.shape hTk
    clear hsh
    obtain ⟨nv, hnv⟩ : ∃ nv, l.length = nv := ⟨_, rfl⟩
    rw [hnv] at hvv
    have hl5 : Hid (l.length ≤ 4) := hl4
    clear hnv hl4
    subst hvv
    have hN := Lib.hid (next_any w.heap.size w.heap.size q 4 v2 hT2.out (by omega) (by omega) (by omega))
    clear hTx hOx hTk hG hOa hsm hT2
    go_wp2_with fail
    refine hN.out.mono ?_
    rintro e v3 ⟨⟨r, hr, rfl⟩, hTx, hOx⟩
    have hO3 := Lib.hid (hO2.out.trans hOx)
    have hTk3 : Hid (Toks v3 W1.heap.size (.slice pv nv cv) l) := own_only hTk'.out hOx fun j hj e => by have := hgv.out j hj; have e : j = w.heap.size := e; omega
    have hR : ∀ W, Calls Tryd.prog 16 #[.string ⟨#[65]⟩, .int .i64 (1018 + (r : Int))] W fun e w' => (∃ R : ByteArray, e = .returned (.string R) ∧ R.size ≤ 2000) ∧ Below W.heap.size W w' := fun W => by
      have h := Tryd.strings_Repeat ⟨#[65]⟩ (1018 + r) W (by omega) (by show 1 * _ ≤ _; omega)
      rw [show ((1018 + r : Nat) : Int) = 1018 + (r : Int) from by omega] at h
      refine h.mono ?_
      rintro e w' ⟨rfl, hb⟩
      refine ⟨⟨_, rfl, ?_⟩, hb⟩
      have h1 := Lib.repeatL_replicate 65 1 (1018 + r)
      rw [Nat.mul_one] at h1
      show (Lib.repeatL (List.replicate 1 65) (1018 + r)).toArray.size ≤ 2000
      rw [h1, List.size_toArray, List.length_replicate]
      omega
    have hR' := Lib.hid hR; clear hR hTx hOx hTk' hN hO2
    go_wp2_with fail
    refine (hR'.out _).mono ?_
    rintro e v4 ⟨⟨R, rfl, hRs⟩, hb4⟩
    have hO4 : Hid (Only (fun j => j = w.heap.size) w v4) := hO3.out.trans (Only.of_below hb4 (fun j h1 h2 => absurd h1 (by omega)))
    have hB4 : Hid (Below w.heap.size w v4) := hO4.out.below (fun j e => by have e : j = w.heap.size := e; omega) (Nat.le_refl _)
    have hAt0' := hAt0.out.below hB4.out
    have hAt1 : TokAt v4 (.slice pv nv cv) l := Toks.at (own_only hTk3.out (Only.of_below (S := fun _ => False) hb4 (fun j h1 h2 => absurd h1 (by omega))) fun j hj e => e) (by have := hl5.out; omega)
    have hAt2 := TokAt.new R ⟨#[]⟩ ⟨#[61]⟩ ⟨#[120]⟩ v4 1
    unfold tokC at hAt2
    have hF2 : ∀ y ∈ [(⟨R, ⟨#[]⟩, ⟨#[61]⟩, ⟨#[120]⟩⟩ : TB)], Fit y := fun y hy => by
      have e : y = ⟨R, ⟨#[]⟩, ⟨#[61]⟩, ⟨#[120]⟩⟩ := by simpa using hy
      rw [e]
      exact ⟨by show R.size ≤ _; omega, by show 0 ≤ 1048576; omega, by show 1 ≤ 1048576; omega, by show 1 ≤ 1048576; omega⟩
    have hba : Below v4.heap.size v4 (v4.alloc (.cells #[.string R, .string ⟨#[]⟩, .string ⟨#[61]⟩, .string ⟨#[120]⟩] 40)) := (Below.refl _ _).alloc (Nat.le_refl _) _
    have hAt0b := hAt0'.below hba
    have hAt1b := hAt1.below hba
    have hB5 : Below w.heap.size w (v4.alloc (.cells #[.string R, .string ⟨#[]⟩, .string ⟨#[61]⟩, .string ⟨#[120]⟩] 40)) := hB4.out.trans (hba.mono hB4.out.size)
    obtain ⟨V2, hV2⟩ : ∃ V2 : Value, Value.slice (some ⟨v4.heap.size, 0, none⟩) 1 1 = V2 := ⟨_, rfl⟩
    have hcs : Hid (∀ k, k < 3 → ∃ pa pn pc lk, TokAt ((v4.alloc (.cells #[.string R, .string ⟨#[]⟩, .string ⟨#[61]⟩, .string ⟨#[120]⟩] 40)).alloc (.cells #[.slice a0 len0 cap0, .slice pv nv cv, .slice (some ⟨v4.heap.size, 0, none⟩) 1 1] 26)) (.slice pa pn pc) lk ∧ (∀ y ∈ lk, Fit y) ∧
        ((v4.alloc (.cells #[.string R, .string ⟨#[]⟩, .string ⟨#[61]⟩, .string ⟨#[120]⟩] 40)).alloc (.cells #[.slice a0 len0 cap0, .slice pv nv cv, .slice (some ⟨v4.heap.size, 0, none⟩) 1 1] 26)).cell? ⟨(v4.alloc (.cells #[.string R, .string ⟨#[]⟩, .string ⟨#[61]⟩, .string ⟨#[120]⟩] 40)).heap.size, k, none⟩ = some (.slice pa pn pc)) := fun k hk => by
      obtain ⟨V, hV, hc⟩ := three_cells (.slice a0 len0 cap0) (.slice pv nv cv) (.slice (some ⟨v4.heap.size, 0, none⟩) 1 1) (v4.alloc (.cells #[.string R, .string ⟨#[]⟩, .string ⟨#[61]⟩, .string ⟨#[120]⟩] 40)) 26 k hk
      have hbb : ∀ o, Below (v4.alloc (.cells #[.string R, .string ⟨#[]⟩, .string ⟨#[61]⟩, .string ⟨#[120]⟩] 40)).heap.size (v4.alloc (.cells #[.string R, .string ⟨#[]⟩, .string ⟨#[61]⟩, .string ⟨#[120]⟩] 40)) ((v4.alloc (.cells #[.string R, .string ⟨#[]⟩, .string ⟨#[61]⟩, .string ⟨#[120]⟩] 40)).alloc o) := fun o => (Below.refl _ _).alloc (Nat.le_refl _) _
      rcases hV with ⟨_, rfl⟩ | ⟨_, rfl⟩ | ⟨_, rfl⟩
      · exact ⟨_, _, _, l0, hAt0b.below (hbb _), hF0.out, hc⟩
      · exact ⟨_, _, _, l, hAt1b.below (hbb _), hF1.out, hc⟩
      · exact ⟨_, _, _, _, hAt2.below (hbb _), hF2, hc⟩
    have hB6 : Hid (Below w.heap.size w ((v4.alloc (.cells #[.string R, .string ⟨#[]⟩, .string ⟨#[61]⟩, .string ⟨#[120]⟩] 40)).alloc (.cells #[.slice a0 len0 cap0, .slice pv nv cv, .slice (some ⟨v4.heap.size, 0, none⟩) 1 1] 26))) := hB5.alloc hB5.size _
    have hbq : Hid ((v4.alloc (.cells #[.string R, .string ⟨#[]⟩, .string ⟨#[61]⟩, .string ⟨#[120]⟩] 40)).heap.size < ((v4.alloc (.cells #[.string R, .string ⟨#[]⟩, .string ⟨#[61]⟩, .string ⟨#[120]⟩] 40)).alloc (.cells #[.slice a0 len0 cap0, .slice pv nv cv, .slice (some ⟨v4.heap.size, 0, none⟩) 1 1] 26)).heap.size) := by
      show _ < (Array.push _ _).size
      rw [Array.size_push]; exact Nat.lt_succ_self _
    clear hO3 hTk3 hO4 hB4 hAt0 hAt0' hAt1 hAt2 hba hAt0b hAt1b hB5 hF0 hF1 hF2 hb4 hgv hRs hV2 hR'
    go_upto_region 5 with fail
    generalize (v4.alloc (.cells #[.string R, .string ⟨#[]⟩, .string ⟨#[61]⟩, .string ⟨#[120]⟩] 40)).alloc (.cells #[.slice a0 len0 cap0, .slice pv nv cv, .slice (some ⟨v4.heap.size, 0, none⟩) 1 1] 26) = W6 at *
    rw [show (v4.alloc (.cells #[.string R, .string ⟨#[]⟩, .string ⟨#[61]⟩, .string ⟨#[120]⟩] 40)).heap.size = v4.heap.size + 1 from by simp] at hcs hbq
    have keep : Hid (∀ W, Below W6.heap.size W6 W → Below w.heap.size w W ∧ W.cell? ⟨0, 0, none⟩ = some (.int .i64 m)) := fun W h => by
      have h1 := hB6.out.trans (h.mono hB6.out.size)
      exact ⟨h1, keepm.out W h1⟩
    clear hB6 keepm
    go_wp2_with fail
    go_loopw [7] (fun s7 wr => ∃ k : Nat, s7 = .int .i64 k ∧ k ≤ 3 ∧ Hid (Below W6.heap.size W6 wr)) (fun s7 _ => 3 - (intOf s7).toNat)
    case atStart => exact ⟨0, rfl, by omega, Below.refl _ _⟩
    case round =>
      obtain ⟨k, rfl, hk, hb⟩ := hrel
      by_cases hk3 : k < 3
      · obtain ⟨pa, pn, pc, lk, hAt, hft, hc⟩ := hcs.out k hk3
        have ik : (k : Int) < 3 := by omega
        have ik0 : (0 : Int) ≤ (k : Int) := by omega
        have c0 : wr.cell? ⟨v4.heap.size + 1, k, none⟩ = some (.slice pa pn pc) := (World.cell?_of_block (hb.out.block (v4.heap.size + 1) hbq.out)).trans hc
        have hF := format_any lk (.slice pa pn pc) m wr (hAt.below hb.out).row (by have := hAt.1; omega) hft (keep.out wr hb.out).2
        have hRf : Hid (∀ W, Below W6.heap.size W6 W → Calls Tryd.prog 18 #[.slice pa pn pc] W fun e w' => (∃ S : ByteArray, e = .returned (.tuple #[.string S, .int .i64 (L.fmt (lk.map TB.tok)).2]) ∧ bs S = (L.fmt (lk.map TB.tok)).1) ∧ Below W.heap.size W w') := fun W h => rformat_any lk (.slice pa pn pc) m W (hAt.below h) hft (keep.out W h).2
        generalize L.fmt (lk.map TB.tok) = FF at *
        obtain ⟨F1, F2⟩ := FF
        have hF' := Lib.hid hF; clear hF hAt hft hc
        go_wp2_with fail
        refine hF'.out.mono ?_
        rintro e v8 ⟨⟨X, rfl, hX⟩, hb8⟩
        have hX : bs X = F1 := hX
        have hb8' : Hid (Below W6.heap.size W6 v8) := hb.out.trans (hb8.mono hb.out.size)
        have c1 : v8.cell? ⟨v4.heap.size + 1, k, none⟩ = some (.slice pa pn pc) := (World.cell?_of_block (hb8.block (v4.heap.size + 1) (by have := hb.out.size; have := hbq.out; omega))).trans c0
        have hC := Lib.hid (hRf.out v8 hb8'.out)
        have hX' := Lib.hid hX; clear hX hb8 c0 hF' hb hRf
        go_wp2_with fail
        refine hC.out.mono ?_
        rintro e v9 ⟨⟨Y, rfl, hY⟩, hb9⟩
        have hY : bs Y = F1 := hY
        obtain rfl : X = Y := bs_inj (hX'.out.trans hY.symm)
        have hb9' : Hid (Below W6.heap.size W6 v9) := hb8'.out.trans (hb9.mono hb8'.out.size)
        have er : (F2 == F2) = true := by simp
        have es : (X.toList == X.toList) = true := by simp
        clear hb9 hY hX' hC c1 hb8'
        go_wp2_with fail
        go_roundw
        case rel => exact ⟨k + 1, by go_num, by omega, hb9'⟩
        case measure => simp [intOf]; omega
      · obtain rfl : k = 3 := by omega
        obtain ⟨k1, m1⟩ := keep.out wr hb.out
        have k1' := Lib.hid k1; clear k1
        have m1' := Lib.hid m1; clear m1
        go_wp2_with fail
        refine (hK'.out _ m1'.out).mono ?_
        rintro e v8 ⟨rfl, hb8⟩
        have k3 := Lib.hid (k1'.out.trans (hb8.mono k1'.out.size)); clear hb8
        go_wp2_with fail
        go_ret
        exact ⟨rfl, k3.out⟩
  · have i0 : (30 : Int) < (len0 : Int) := by omega
    clear w0 f0 w1
    have hm' := Lib.hid hm; clear hm
    go_enter Tryd.func4, Tryd.ntmps4
    go_wp2_with fail
    refine (hK'.out _ hm'.out).mono ?_
    rintro e v1 ⟨rfl, hb1⟩
    have k1' := Lib.hid hb1; clear hb1
    go_wp2_with fail
    go_ret
    exact ⟨rfl, k1'.out⟩

/-! ### THE ROW's STEP -/
set_option maxRecDepth 100000 in
theorem seen (os : Os) (H : Type) (enc : TypeId × Value → H) :
    ∃ (w : World) (tape : Go.Tape) (i : Input), w.os = os ∧ (w.forCall tape i).Shaped Tryd.checked.prog ∧ i.vars = [] ∧ Input.okWide Tryd.checked.prog (w.forCall tape i) .any w.heap.size 4 i ∧
      (Rows.OpenSpec.upto Rows.lexerFormatsSpec).preRow enc Tryd.checked.prog Tryd.f4 Rows.lexerFormatsUptoRow.domain false Rows.lexerFormatsUptoRow.laid (w.forCall tape i).memory i.args ∧ ({} : Assume).holds Tryd.checked.prog (lone (Frame.enter Tryd.checked.prog 4 i.args .normal) [] (w.forCall tape i)) :=
  by
  have hok : Input.okWideB Tryd.checked.prog ((World.laidAll Tryd.prog os Rows.lexerFormatsUptoRow.laid).forCall (fun _ _ => 0) ⟨#[], #[.slice none 0 0, .slice none 0 0], []⟩) 4 ⟨#[], #[.slice none 0 0, .slice none 0 0], []⟩ = true := by kernel_rfl
  exact ⟨World.laidAll Tryd.prog os Rows.lexerFormatsUptoRow.laid, fun _ _ => 0, ⟨#[], #[.slice none 0 0, .slice none 0 0], []⟩, World.laidAll_os _ _ _, World.shaped_of_ZipB (by kernel_rfl) (by kernel_rfl),
    (Input.okWide_of_okWideB (base := 0) hok).1, (Input.okWide_of_okWideB hok).2,
    ⟨⟨(OpenSpec.pre_some (k := Rows.uptoSmall) rfl _ _ _ _).2 ⟨[.nil, .nil], [], [], DataW.Whole_of_whole (fuel := 8) (x := ([.nil, .nil], [], [])) (by kernel_rfl), by kernel_rfl, by kernel_rfl⟩,
      by rw [MakeChecks.laidMetH_plain _ _ _ (by kernel_rfl)]; exact laidMet_laidAll _ (by kernel_rfl) (by kernel_rfl)⟩, sizedMet_of_sizedB (fuel := 8) (by kernel_rfl)⟩, by
    simp only [Assume.holds]
    exact ⟨by simp, by simp, fun _ => Modest.zero, by simp, by simp⟩⟩
set_option maxRecDepth 100000 in
theorem lifted (os : Os) (started : os.Started) (H : Type) (enc : TypeId × Value → H) (F : Stop.Interp) :
    ReturnsInHanded {} Tryd.checked os 4 .any ((Rows.OpenSpec.upto Rows.lexerFormatsSpec).preRow enc Tryd.prog Tryd.f4 Rows.lexerFormatsUptoRow.domain false Rows.lexerFormatsUptoRow.laid) (((Rows.OpenSpec.upto Rows.lexerFormatsSpec).at F).post enc Tryd.prog Tryd.f4 false true false false) := by
  refine returnsInHanded_of_row (C := Tryd.checked) own started (by kernel_rfl) Tryd.func4 (seen os H enc) ?_
  intro W base args ds gs before hval0 hW hcnd hcond _ _ hsh _
  have hval : ∀ (j : Nat) t v, Tryd.f4.params[j]? = some t → args[j]? = some v → Value.okWide Tryd.prog W .any base t v := hval0
  have hW' := hW
  obtain ⟨p, q, hA0, hV, rfl, hfz, hnd⟩ := hW
  have hA : DataW.TrodAll enc Tryd.prog W 0 (fun _ => true) true Tryd.f4.params.toList args.toList ds p := hA0
  rw [Tryd.params4] at hA hval
  obtain ⟨v0, vs0, d0, ds0, p0, q0, hargs, rfl, rfl, h0, r0⟩ := trodAll_cons hA
  obtain ⟨v1, vs1, d1, ds1, p1, q1, rfl, rfl, rfl, h1, r1⟩ := trodAll_cons r0
  obtain ⟨rfl, rfl, rfl⟩ := trodAll_nil r1
  obtain rfl : args = #[v0, v1] := by cases args; simp_all
  obtain ⟨rfl, rfl⟩ := trodVars_none hV
  have hbulk : Rows.uptoBulk d0 ≤ 1048576 := by
    have h : decide (Rows.uptoBulkAll ([d0, d1] ++ []) ≤ 1048576) = true := hcond Rows.uptoSmall rfl
    have h2 := of_decide_eq_true h
    have h3 := bulk_mem ([d0, d1] ++ []) d0 (by simp)
    omega
  obtain ⟨a0, len0, cap0, rfl⟩ := okWide_slice Tryd.underlying26 (hval 0 26 v0 rfl rfl)
  have k0 := h0
  have lt0 : ∀ x ∈ p0, x.block < W.heap.size := by obtain ⟨m, hm⟩ := k0; exact DataW.trod_lt m _ _ _ hm
  obtain ⟨l0, n0, w0, s0⟩ : ∃ l : List TB, l.length = len0 ∧ TokRow W (.slice a0 len0 cap0) l ∧ ∀ y ∈ l, y.k.size ≤ 1048576 ∧ y.n.size ≤ 1048576 ∧ y.o.size ≤ 1048576 ∧ y.v.size ≤ 1048576 := by
    obtain ⟨fuel, hf⟩ := h0
    exact open_raw (hval 0 26 _ rfl rfl) hf hbulk
  obtain ⟨a1, len1, cap1, rfl⟩ := okWide_slice Tryd.underlying22 (hval 1 22 v1 rfl rfl)
  have k1 := h1
  have lt1 : ∀ x ∈ p1, x.block < W.heap.size := by obtain ⟨m, hm⟩ := k1; exact DataW.trod_lt m _ _ _ hm
  obtain ⟨z1, w1⟩ : ∃ zs, IsRow .i64 W a1 len1 cap1 zs := by
    obtain ⟨fuel, hf⟩ := h1
    rcases open_ints Tryd.underlying22 Tryd.underlying3 (by kernel_rfl) hf with ⟨hcs, _⟩ | ⟨x, l, c, zs, hcs, _, hl, hm, hz, _, hcell, hwz⟩
    · simp [Value.cells] at hcs
      obtain ⟨rfl, rfl, rfl⟩ := hcs
      exact ⟨[], .inl ⟨rfl, rfl, rfl, rfl⟩⟩
    · simp [Value.cells] at hcs
      obtain ⟨rfl, rfl, rfl⟩ := hcs
      exact ⟨zs, .inr ⟨_, rfl, hl, hm, by simpa using hz, hcell, hwz⟩⟩
  clear hA0 hval0
  obtain ⟨m, hm⟩ := Tryd.laysM143.s1_3 W hsh
  refine (walk a0 len0 cap0 l0 a1 len1 cap1 z1 W n0 w0 s0 w1 m hm).mono fun e W' ⟨he, bel⟩ => ?_
  subst he
  exact ⟨_, rfl, _, _, _, [], _, [], hW', trodAll_mk1 (shut_bool Tryd.underlying4 _), (trodAll_cons_mk (Below.trod laidOut (by kernel_rfl) (of_decide_eq_true (by kernel_rfl)) k0 bel lt0) (trodAll_cons_mk (Below.trod laidOut (by kernel_rfl) (of_decide_eq_true (by kernel_rfl)) k1 bel lt1) trodAll_mk0)), rfl, bel.frame _, fun h => by cases h⟩

theorem over : Rows.lexerFormatsUptoRow.holds Tryd.pinned (Rows.OpenSpec.upto Rows.lexerFormatsSpec) :=
  OpenClaim.holds_of_cond 4 Tryd.f4 rfl rfl rfl rfl rfl rfl rfl ⟨rfl, rfl, rfl, rfl, rfl⟩ rfl rfl rfl rfl rfl (by kernel_rfl) Tryd.func4 (by kernel_rfl)
    (of_decide_eq_true (by kernel_rfl)) (by unfold Func.isWrapper; first | (rw [if_pos (by decide +kernel)]; kernel_rfl) | (rw [if_neg (by decide +kernel)]; exact ⟨rfl, rfl⟩))
    (fun os started H enc _ F => by rw [OpenClaim.pre_eq_preRow]; exact lifted os started H enc F)

/-- THE STATEMENT: THE TIED CARD OF THE SECOND FORM -/
theorem proved : Rows.LexerFormatsUptoCardSaid :=
  Claim7.holds_tied_plain_at .later [] [.data, .pinned] true (true, "d802cc47a91f01ff99b42efe3e5faa499c9dd62bc719bdb57b0c9f4495fbecae") false over (fun _ h => by cases h) (by kernel_rfl) (fun _ h => by cases h) lexerFormatsUpto_row_tie rfl ⟨rfl, rfl⟩ (by kernel_rfl) rfl
    (fun f fn hf hfn => by
      obtain rfl : f = 4 := Option.some.inj ((show Tryd.prog.funcNamed "coldplug/coldpluglaw08.LexerFormats" = some 4 by kernel_rfl).symm.trans hf) |>.symm
      obtain rfl : fn = Tryd.f4 := (Option.some.inj (Tryd.func4.symm.trans hfn)).symm
      exact ⟨by kernel_rfl, fun j t ht => by
        rw [Tryd.params4] at ht
        have hm : t ∈ [26, 22] := by
          have := Array.mem_of_getElem? ht
          simp at this ⊢
          exact this
        have hall : ([26, 22].all fun u => !Tryd.prog.wantsStandIn u) = true := by kernel_rfl
        exact (show Tryd.prog.wantsStandIn t = false by simpa using List.all_eq_true.1 hall t hm)⟩)
    (by kernel_rfl)
#print axioms proved
end Go.Proofs.YtofemhaepadggaaDoor.lexerFormats
