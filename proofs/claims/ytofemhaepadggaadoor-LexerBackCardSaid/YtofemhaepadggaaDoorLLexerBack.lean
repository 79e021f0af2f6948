/-
  The law LexerBack, with the tied card of its row: proved for all inputs, without conditions.
-/
import Derived.Test.YtofemhaepadggaaDoorRows
import Derived.Test.YtofemhaepadggaaDoorCards
import Derived.Test.YtofemhaepadggaaDoorTie
import Derived.Test.YtofemhaepadggaaDoorDoor
import Derived.Test.YtofemhaepadggaaDoorShut
import Derived.Test.YtofemhaepadggaaDoorLexSep
import Derived.WalkKit
import Derived.ProofKit
import Derived.OpenShut
import Derived.ShutString
import Derived.LaidMore
import Derived.Lay
import Derived.SevenTiedAt
import Derived.Stop.Joined
import Derived.ChangeOld
import Derived.Below
import Derived.Laws.AppendOwnNone
namespace Go.Proofs.YtofemhaepadggaaDoor.lexerBack
open Go.ChangeShapes Go.WideShapes Go.ChangeAt Go.RowKit
open Go.ChangeMaps (open_string shut_string)
open Go.Proofs.YtofemhaepadggaaDoor
set_option linter.unusedVariables false

theorem own : ownKnob Tryd.prog.godebug = none := by kernel_rfl
theorem laidOut : laidOutB Tryd.prog = true := by kernel_rfl

/-- WHAT THE WALK IS TOLD OF A SLICE OF INTEGERS THAT CAME IN: it is nil; or it leads to a row of 'cap' cells, the numbers 'zs' (the first 'len' are its elements, the rest its spare room), each fitting its kind. -/
def IsRow (k : IntKind) (w : World) (a : Option Addr) (len cap : Nat) (zs : List Int) : Prop :=
  (a = none ∧ len = 0 ∧ cap = 0 ∧ zs = []) ∨
  ∃ x, a = some x ∧ len ≤ cap ∧ cap ≤ maxLen ∧ zs.length = cap ∧ (∀ i, i < zs.length → w.cell? (x.add i) = some (.int k (zs.getD i 0))) ∧ ∀ n ∈ zs, (Lit.int k n).wf = true

/-! ### STEP 1: THE WALK: the Go text returns true, AND WRITES NOTHING THAT WAS THERE: 'Below w.heap.size w w'' (Derived/Below.lean: '.refl', '.alloc', '.drew', '.setCell' at a new block, '.trans'). Open each 'IsRow' by 'rcases' AHEAD of 'go_enter'; part every test ahead of the walk. -/
theorem row_reads {w : World} {a : Option Addr} {n c : Nat} {z : List Int} (h : IsRow .i64 w a n c z) : 0 < n → ∃ x : Addr, a = some x ∧ ∀ i, i < n → ∃ z : Int, w.cell? (x.add i) = some (.int .i64 z) := by
  intro hn
  rcases h with ⟨_, h0, _⟩ | ⟨x, e, hle, _, hz, hc, _⟩
  · omega
  · exact ⟨x, e, fun i hi => ⟨_, hc i (by omega)⟩⟩

open Go.Proofs.YtofemhaepadggaaDoor in
set_option maxRecDepth 100000 in
set_option maxHeartbeats 4000000 in
theorem walk (a0 : ByteArray) (a1 : Option Addr) (len1 cap1 : Nat) (z1 : List Int) (w : World) (w0 : a0.size ≤ maxLen) (w1 : IsRow .i64 w a1 len1 cap1 z1) (m : Int) (hm : w.cell? ⟨0, 0, none⟩ = some (.int .i64 m)) :
    Calls Tryd.prog 9 #[.string a0, .slice a1 len1 cap1] w fun e w' => e = .returned (.bool true) ∧ Below w.heap.size w w' := by
  have h0lt : 0 < w.heap.size := World.block_lt_of_cell? w _ hm
  have hT0 := tape_new a1 len1 cap1 w (row_reads w1)
  have hK' := Lib.hid (fun W hW => lknown_any W m hW)
  have keepm : Hid (∀ W, Only (fun j => j = w.heap.size) w W → W.cell? ⟨0, 0, none⟩ = some (.int .i64 m)) := fun W ho => (World.cell?_of_block (ho.block 0 h0lt (fun e => by have e : 0 = w.heap.size := e; omega))).trans hm
  have hG := Lib.hid (gtokens_any w.heap.size w.heap.size 0 false _ hT0 (by omega))
  clear hm hT0 w1
  have hOa : Hid (Only (fun j => j = w.heap.size) w (w.alloc (.cells #[.slice a1 len1 cap1, .int .i64 0] 25))) := (Only.refl _ w).alloc _
  have hBs : Hid (w.heap.size < (w.alloc (.cells #[.slice a1 len1 cap1, .int .i64 0] 25)).heap.size) := by
    show w.heap.size < (Array.push _ _).size
    rw [Array.size_push]; omega
  go_enter Tryd.func9, Tryd.ntmps9
  go_wp2_with fail
  refine hG.out.mono ?_
  rintro e v2 ⟨l, v, q, rfl, hl4, _, hin, hq, hTk, hTx, hOx⟩
  generalize w.alloc (.cells #[.slice a1 len1 cap1, .int .i64 0] 25) = W1 at *
  have hT2 := Lib.hid hTx
  have hO2 := Lib.hid (hOa.out.trans hOx)
  have hin2 : ∀ x ∈ l, InGen x := hin (by first | exact rfl | exact trivial)
  have hfm := fmt_small hin2 hl4
  obtain ⟨hfm1, hfm2⟩ := hfm
  have hF := format_any l v m v2 hTk.row (by omega) (fun x hx => (hin2 x hx).small.fit) (keepm.out v2 hO2.out)
  rw [hfm1] at hF
  have hbk := L.tokensS_fmt (l.map TB.tok) (fun x hx => by
    obtain ⟨y, hy, rfl⟩ := List.mem_map.1 hx
    exact (hin2 y hy).good) hfm2
  have hF' := Lib.hid hF; clear hF
  have hbk' := Lib.hid hbk; clear hbk hin2 hin hfm1 hfm2
  have hTk' := Lib.hid hTk
  clear hTx hOx hTk hG hOa
  go_wp2_with fail
  refine hF'.out.mono ?_
  rintro e v3 ⟨⟨X, rfl, hX⟩, hb3⟩
  have hX : bs X = L.sepFirst ((l.map TB.tok).map L.one) := hX
  have hT3 : Hid (Tape v3 w.heap.size w.heap.size q) := hT2.out.below hb3
  have hO3 : Hid (Only (fun j => j = w.heap.size) w v3) := hO2.out.trans (Only.of_below hb3 (fun j h1 h2 => absurd h1 (by omega)))
  have hTk3 : Hid (Toks v3 W1.heap.size v l) := own_only hTk'.out (Only.of_below (S := fun _ => False) hb3 (fun j h1 h2 => absurd h1 (by omega))) fun j hj e => e
  have hA := fun W => tokens_any X W
  rw [hX, hbk'.out] at hA
  have hA' := Lib.hid hA; clear hA hX hb3 hTk' hT2 hO2 hF' hbk'
  go_wp2_with fail
  refine (hA'.out _).mono ?_
  rintro e v4 ⟨⟨va, la, rfl, hla, hTa⟩, hb4⟩
  have hla : la.map TB.tok = l.map TB.tok := hla
  obtain rfl : la = l := toks_inj hla
  have hT4 : Hid (Tape v4 w.heap.size w.heap.size q) := hT3.out.below hb4
  have hO4 : Hid (Only (fun j => j = w.heap.size) w v4) := hO3.out.trans (Only.of_below hb4 (fun j h1 h2 => absurd h1 (by omega)))
  have hTk4 : Hid (Toks v4 W1.heap.size v la) := own_only hTk3.out (Only.of_below (S := fun _ => False) hb4 (fun j h1 h2 => absurd h1 (by omega))) fun j hj e => e
  have hTa' := Lib.hid hTa
  have hS1 : Hid (∀ W, Only (fun _ => False) v4 W → Calls Tryd.prog 14 #[v, va] W fun e w' => e = .returned (.bool true) ∧ Below W.heap.size W w') := fun W ho => by
    have h := sameT_any la la v va _ _ W (own_only hTk4.out ho fun j hj e => e) (own_only hTa'.out ho fun j hj e => e) (by omega)
    rwa [decide_eq_true (rfl : la = la)] at h
  clear hb4 hTa hTa' hTk3 hTk4 hla hA' hT3 hO3
  go_wp2_with fail
  refine (hS1.out v4 (Only.refl _ _)).mono ?_
  rintro e v5 ⟨rfl, hb5⟩
  have hT5 : Hid (Tape v5 w.heap.size w.heap.size q) := hT4.out.below hb5
  have hO5 : Hid (Only (fun j => j = w.heap.size) w v5) := hO4.out.trans (Only.of_below hb5 (fun j h1 h2 => absurd h1 (by omega)))
  have hS2 := Lib.hid (hS1.out v5 (Only.of_below hb5 (fun j h1 h2 => absurd h1 (by omega))))
  clear hb5 hT4 hO4 hS1
  by_cases s0 : a0.size ≤ 900
  · have i0 : ¬ (900 : Int) < (a0.size : Int) := by omega
    clear hS2
    have hLn := Lib.hid (line_any w.heap.size w.heap.size q m v5 hT5.out (by omega) (keepm.out v5 hO5.out) (by omega))
    go_wp2_with fail
    refine hLn.out.mono ?_
    rintro e v6 ⟨⟨s, rfl, hs⟩, _, hOx⟩
    have hO6 := Lib.hid (hO5.out.trans hOx)
    have hb2 : Hid (Below w.heap.size w (v6.alloc (.cells #[.string a0, .string s] 9))) := ((hO6.out).alloc _).below (fun j e => by have e : j = w.heap.size := e; omega) (Nat.le_refl _)
    have hb2b : Hid (v6.heap.size < (v6.alloc (.cells #[.string a0, .string s] 9)).heap.size) := by
      show v6.heap.size < (Array.push _ _).size
      rw [Array.size_push]; omega
    have hcs := Lib.hid (two_cells a0 s v6 9)
    have hm7 : Hid ((v6.alloc (.cells #[.string a0, .string s] 9)).cell? ⟨0, 0, none⟩ = some (.int .i64 m)) := keepm.out _ (hO6.out.alloc _)
    clear hOx hT5 hO5 hLn hO6 keepm
    go_upto_region 8 with fail
    generalize v6.alloc (.cells #[.string a0, .string s] 9) = v7 at *
    have h7lt : 0 < v7.heap.size := World.block_lt_of_cell? v7 _ hm7.out
    have keep : Hid (∀ W, Below v7.heap.size v7 W → Below w.heap.size w W ∧ W.cell? ⟨0, 0, none⟩ = some (.int .i64 m)) := fun W h => by
      have h1 := hb2.out.trans (h.mono hb2.out.size)
      exact ⟨h1, (World.cell?_of_block (h.block 0 h7lt)).trans hm7.out⟩
    clear hb2 hm7
    go_wp2_with fail
    go_loopw [12] (fun s12 wr => ∃ k : Nat, s12 = .int .i64 k ∧ k ≤ 2 ∧ Hid (Below v7.heap.size v7 wr)) (fun s12 _ => 2 - (intOf s12).toNat)
    case atStart => exact ⟨0, rfl, by omega, Below.refl _ _⟩
    case round =>
      obtain ⟨k, rfl, hk, hb⟩ := hrel
      by_cases hk2 : k < 2
      · obtain ⟨t, _, hc⟩ := hcs.out k hk2
        have ik : (k : Int) < 2 := by omega
        have ik0 : (0 : Int) ≤ (k : Int) := by omega
        have c0 : wr.cell? ⟨v6.heap.size, k, none⟩ = some (.string t) := (World.cell?_of_block (hb.out.block v6.heap.size hb2b.out)).trans hc
        have hA := fun W => tokens_any t W
        have hlen := tokensS_len (bs t)
        have hgood := L.tokensS_in (bs t)
        generalize L.tokensS (bs t) = R at *
        have hA' := Lib.hid hA; clear hA hc
        have hgood' := Lib.hid hgood; clear hgood
        obtain ⟨R1, R2⟩ := R
        simp only at hlen
        by_cases hR : R2 = 0
        · subst hR
          go_wp2_with fail
          refine (hA'.out _).mono ?_
          rintro e v8 ⟨⟨vx, lx, rfl, hlx, hTx⟩, hb8⟩
          have hlx : lx.map TB.tok = R1 := hlx
          subst hlx
          have hb8' : Hid (Below v7.heap.size v7 v8) := hb.out.trans (hb8.mono hb.out.size)
          have hg1 : ∀ y ∈ lx.map TB.tok, L.good y = true := fun y hy => (hgood'.out y hy).1
          have hft : ∀ x ∈ lx, Fit x := fun x hx => by
            obtain ⟨_, h1, h2, h3, h4⟩ := hgood'.out x.tok (List.mem_map.2 ⟨x, hx, rfl⟩)
            have e1 : x.tok.k.length = x.k.size := length_bs _
            have e2 : x.tok.n.length = x.n.size := length_bs _
            have e3 : x.tok.o.length = x.o.size := length_bs _
            have e4 : x.tok.v.length = x.v.size := length_bs _
            exact ⟨by omega, by omega, by omega, by omega⟩
          rw [List.length_map] at hlen
          have hF := format_any lx vx m v8 hTx.row hlen hft (keep.out v8 hb8'.out).2
          rw [L.fmt_good hg1] at hF
          have hTx' := Lib.hid hTx
          clear hb8 hb hTx hgood' hA' c0 hft
          by_cases hbig : 1024 < (L.sepFirst ((lx.map TB.tok).map L.one)).length
          · rw [if_pos hbig] at hF
            have hF' := Lib.hid hF; clear hF hg1 hbig
            go_wp2_with fail
            refine hF'.out.mono ?_
            rintro e v9 ⟨⟨Y, rfl, hY⟩, hb9⟩
            have hb9' : Hid (Below v7.heap.size v7 v9) := hb8'.out.trans (hb9.mono hb8'.out.size)
            clear hb9 hY
            go_wp2_with fail
            go_roundw
            case rel => exact ⟨k + 1, by go_num, by omega, hb9'⟩
            case measure => simp [intOf]; omega
          · rw [if_neg hbig] at hF
            have hbk := L.tokensS_fmt (lx.map TB.tok) hg1 (by omega)
            have hF' := Lib.hid hF; clear hF hg1 hbig
            have hbk' := Lib.hid hbk; clear hbk
            go_wp2_with fail
            refine hF'.out.mono ?_
            rintro e v9 ⟨⟨Y, rfl, hY⟩, hb9⟩
            have hY : bs Y = L.sepFirst ((lx.map TB.tok).map L.one) := hY
            have hb9' : Hid (Below v7.heap.size v7 v9) := hb8'.out.trans (hb9.mono hb8'.out.size)
            have hTx9 : Hid (Toks v9 wr.heap.size vx lx) := own_only hTx'.out (Only.of_below (S := fun _ => False) hb9 (fun j h1 h2 => absurd h1 (by omega))) fun j hj e => e
            have hA := fun W => tokens_any Y W
            rw [hY, hbk'.out] at hA
            have hA' := Lib.hid hA; clear hA hY hb9 hTx' hbk' hF' hb8'
            go_wp2_with fail
            refine (hA'.out _).mono ?_
            rintro e v10 ⟨⟨vy, ly, rfl, hly, hTy⟩, hb10⟩
            have hly : ly.map TB.tok = lx.map TB.tok := hly
            obtain rfl : ly = lx := toks_inj hly
            have hb10' : Hid (Below v7.heap.size v7 v10) := hb9'.out.trans (hb10.mono hb9'.out.size)
            have hTx10 : Toks v10 wr.heap.size vx ly := own_only hTx9.out (Only.of_below (S := fun _ => False) hb10 (fun j h1 h2 => absurd h1 (by omega))) fun j hj e => e
            have hS0 := sameT_any ly ly vx vy _ _ v10 hTx10 hTy (by omega)
            rw [decide_eq_true (rfl : ly = ly)] at hS0
            have hS' := Lib.hid hS0; clear hS0
            clear hb10 hTx10 hTy hly hA' hTx9 hb9'
            go_wp2_with fail
            refine hS'.out.mono ?_
            rintro e v11 ⟨rfl, hb11⟩
            have hb11' : Hid (Below v7.heap.size v7 v11) := hb10'.out.trans (hb11.mono hb10'.out.size)
            clear hb11 hS' hb10'
            go_wp2_with fail
            go_roundw
            case rel => exact ⟨k + 1, by go_num, by omega, hb11'⟩
            case measure => simp [intOf]; omega
        · have er : (R2 == 0) = false := beq_eq_false_iff_ne.2 hR
          go_wp2_with fail
          refine (hA'.out _).mono ?_
          rintro e v8 ⟨⟨vx, lx, rfl, hlx, hTx⟩, hb8⟩
          have hb8' : Hid (Below v7.heap.size v7 v8) := hb.out.trans (hb8.mono hb.out.size)
          clear hb8 hb hTx hlx hgood' hA' c0
          go_wp2_with fail
          go_roundw
          case rel => exact ⟨k + 1, by go_num, by omega, hb8'⟩
          case measure => simp [intOf]; omega
      · obtain rfl : k = 2 := by omega
        obtain ⟨k1, m1⟩ := keep.out wr hb.out
        have k1' := Lib.hid k1; clear k1
        have m1' := Lib.hid m1; clear m1
        go_wp2_with fail
        refine (hK'.out _ m1'.out).mono ?_
        rintro e v8 ⟨rfl, hb8⟩
        have k3 := Lib.hid (k1'.out.trans (hb8.mono k1'.out.size)); clear hb8
        go_wp2_with fail
        go_ret
        exact ⟨rfl, k3.out⟩
  · have i0 : (900 : Int) < (a0.size : Int) := by omega
    go_wp2_with fail
    refine hS2.out.mono ?_
    rintro e v6 ⟨rfl, hb6⟩
    have hO6 : Hid (Only (fun j => j = w.heap.size) w v6) := hO5.out.trans (Only.of_below hb6 (fun j h1 h2 => absurd h1 (by omega)))
    have m6 := Lib.hid (keepm.out v6 hO6.out)
    clear hb6 hT5 hO5 hS2
    go_wp2_with fail
    refine (hK'.out _ m6.out).mono ?_
    rintro e v7 ⟨rfl, hb7⟩
    have hO7 : Hid (Only (fun j => j = w.heap.size) w v7) := hO6.out.trans (Only.of_below hb7 (fun j h1 h2 => absurd h1 (by omega)))
    clear hb7
    go_wp2_with fail
    go_ret
    exact ⟨rfl, hO7.out.below (fun j e => by have e : j = w.heap.size := e; omega) (Nat.le_refl _)⟩

/-! ### THE ROW's STEP: WRITTEN OUT: LEAVE IT -/
set_option maxRecDepth 100000 in
theorem lifted (os : Os) (started : os.Started) (H : Type) (enc : TypeId × Value → H) :
    ReturnsInHanded {} Tryd.checked os 9 .any (fun w args => (Rows.lexerBackSpec.pre enc Tryd.prog Tryd.f9 Rows.lexerBackRow.domain false w args ∧ laidMetH Tryd.prog Rows.lexerBackRow.laid w) ∧ sizedMet enc Tryd.prog Tryd.f9 (OpenSpec.ofChange Rows.lexerBackSpec) false w args) (Rows.lexerBackSpec.post enc Tryd.prog Tryd.f9 false true false false) := by
  refine handed_and_shaped (C := Tryd.checked) (X := fun w _ => laidMetH Tryd.prog Rows.lexerBackRow.laid w) (fun _ _ _ hh h => h.of_heap hh) own started (by kernel_rfl) Tryd.func9
    (ChangeSpec.witness_shaped (enc := enc) (C := Tryd.checked) (os := os) (X := fun w _ => laidMetH Tryd.prog Rows.lexerBackRow.laid w) false (World.laidAll Tryd.prog os Rows.lexerBackRow.laid) #[.string ByteArray.empty, .slice none 0 0] 8 (World.laidAll_os _ _ _)
      (World.shaped_of_ZipB (by kernel_rfl) (by kernel_rfl)) (by kernel_rfl) (by kernel_rfl) (by kernel_rfl)
      (by rw [MakeChecks.laidMetH_plain _ _ _ (by kernel_rfl)]; exact laidMet_laidAll _ (by kernel_rfl) (by kernel_rfl))) ?_
  intro W base args ds gs before hval0 hW hcnd hsh _
  have hval : ∀ (j : Nat) t v, Tryd.f9.params[j]? = some t → args[j]? = some v → Value.okWide Tryd.prog W .any base t v := hval0
  have hW' := hW
  obtain ⟨p, q, hA0, hV, rfl, hfz, hnd⟩ := hW
  have hA : DataW.TrodAll enc Tryd.prog W 0 (fun _ => true) true Tryd.f9.params.toList args.toList ds p := hA0
  rw [Tryd.params9] at hA hval
  obtain ⟨v0, vs0, d0, ds0, p0, q0, hargs, rfl, rfl, h0, r0⟩ := trodAll_cons hA
  obtain ⟨v1, vs1, d1, ds1, p1, q1, rfl, rfl, rfl, h1, r1⟩ := trodAll_cons r0
  obtain ⟨rfl, rfl, rfl⟩ := trodAll_nil r1
  obtain rfl : args = #[v0, v1] := by cases args; simp_all
  obtain ⟨rfl, rfl⟩ := trodVars_none hV
  obtain ⟨a0, rfl, rfl, rfl, w0⟩ := open_string Tryd.underlying9 (hval 0 9 v0 rfl rfl) h0
  obtain ⟨a1, len1, cap1, rfl⟩ := okWide_slice Tryd.underlying22 (hval 1 22 v1 rfl rfl)
  have k1 := h1
  have lt1 : ∀ x ∈ p1, x.block < W.heap.size := by obtain ⟨m, hm⟩ := k1; exact DataW.trod_lt m _ _ _ hm
  obtain ⟨z1, w1⟩ : ∃ zs, IsRow .i64 W a1 len1 cap1 zs := by
    obtain ⟨fuel, hf⟩ := h1
    rcases open_ints Tryd.underlying22 Tryd.underlying3 (by kernel_rfl) hf with ⟨hcs, _⟩ | ⟨x, l, c, zs, hcs, _, hl, hm, hz, _, hcell, hwz⟩
    · simp [Value.cells] at hcs
      obtain ⟨rfl, rfl, rfl⟩ := hcs
      exact ⟨[], .inl ⟨rfl, rfl, rfl, rfl⟩⟩
    · simp [Value.cells] at hcs
      obtain ⟨rfl, rfl, rfl⟩ := hcs
      exact ⟨zs, .inr ⟨_, rfl, hl, hm, by simpa using hz, hcell, hwz⟩⟩
  clear hA0 hval0
  obtain ⟨m, hm⟩ := Tryd.laysM143.s1_3 W hsh
  refine (walk a0 a1 len1 cap1 z1 W w0 w1 m hm).mono fun e W' ⟨he, bel⟩ => ?_
  subst he
  exact ⟨_, rfl, _, _, _, [], _, [], hW', trodAll_mk1 (shut_bool Tryd.underlying4 _), (trodAll_cons_mk (shut_string Tryd.underlying9 w0) (trodAll_cons_mk (Below.trod laidOut (by kernel_rfl) (of_decide_eq_true (by kernel_rfl)) k1 bel lt1) trodAll_mk0)), rfl, bel.frame _, fun h => by cases h⟩

theorem over : Rows.lexerBackRow.holds Tryd.pinned (OpenSpec.ofChange Rows.lexerBackSpec) :=
  OpenClaim.holds_of_wide 9 Tryd.f9 rfl rfl rfl rfl rfl rfl rfl ⟨rfl, rfl, rfl, rfl, rfl⟩ rfl rfl rfl rfl rfl (by kernel_rfl) Tryd.func9 (by kernel_rfl)
    (of_decide_eq_true (by kernel_rfl)) (by unfold Func.isWrapper; first | (rw [if_pos (by decide +kernel)]; kernel_rfl) | (rw [if_neg (by decide +kernel)]; exact ⟨rfl, rfl⟩))
    (fun os started H enc _ => lifted os started H enc)

/-- ████ THE STATEMENT: THE TIED CARD ████ -/
theorem proved : Rows.LexerBackCardSaid :=
  Claim7.holds_tied_plain_at .later [] [.data, .pinned] true (true, "d802cc47a91f01ff99b42efe3e5faa499c9dd62bc719bdb57b0c9f4495fbecae") false over (fun _ h => by cases h) (by kernel_rfl) (fun _ h => by cases h) lexerBack_row_tie rfl ⟨rfl, rfl⟩ (by kernel_rfl) rfl
    (fun f fn hf hfn => by
      obtain rfl : f = 9 := Option.some.inj ((show Tryd.prog.funcNamed "coldplug/coldpluglaw08.LexerBack" = some 9 by kernel_rfl).symm.trans hf) |>.symm
      obtain rfl : fn = Tryd.f9 := (Option.some.inj (Tryd.func9.symm.trans hfn)).symm
      exact ⟨by kernel_rfl, fun j t ht => by
        rw [Tryd.params9] at ht
        have hm : t ∈ [9, 22] := by
          have := Array.mem_of_getElem? ht
          simp at this ⊢
          exact this
        have hall : ([9, 22].all fun u => !Tryd.prog.wantsStandIn u) = true := by kernel_rfl
        exact (show Tryd.prog.wantsStandIn t = false by simpa using List.all_eq_true.1 hall t hm)⟩)
    (by kernel_rfl)
#print axioms proved
end Go.Proofs.YtofemhaepadggaaDoor.lexerBack
