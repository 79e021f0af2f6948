/-
  The law LexerSeparators, with the tied card of its row: proved for all inputs, without conditions.
-/
import Derived.Test.YtofemhaepadggaaDoorRows
import Derived.Test.YtofemhaepadggaaDoorCards
import Derived.Test.YtofemhaepadggaaDoorTie
import Derived.Test.YtofemhaepadggaaDoorDoor
import Derived.Test.YtofemhaepadggaaDoorShut
import Derived.Test.YtofemhaepadggaaDoorLexSep
import Derived.WalkKit
import Derived.ProofKit
import Derived.OpenShut
import Derived.ShutString
import Derived.LaidMore
import Derived.Lay
import Derived.SevenTiedAt
import Derived.Stop.Joined
import Derived.ChangeOld
import Derived.Below
import Derived.Laws.AppendOwnNone
namespace Go.Proofs.YtofemhaepadggaaDoor.lexerSeparators
open Go.ChangeShapes Go.WideShapes Go.ChangeAt Go.RowKit
open Go.ChangeMaps (open_string shut_string)
open Go.Proofs.YtofemhaepadggaaDoor
set_option linter.unusedVariables false

theorem own : ownKnob Tryd.prog.godebug = none := by kernel_rfl
theorem laidOut : laidOutB Tryd.prog = true := by kernel_rfl

/-- WHAT THE WALK IS TOLD OF A SLICE OF INTEGERS THAT CAME IN: it is nil; or it leads to a row of 'cap' cells, the numbers 'zs' (the first 'len' are its elements, the rest its spare room), each fitting its kind. -/
def IsRow (k : IntKind) (w : World) (a : Option Addr) (len cap : Nat) (zs : List Int) : Prop :=
  (a = none ∧ len = 0 ∧ cap = 0 ∧ zs = []) ∨
  ∃ x, a = some x ∧ len ≤ cap ∧ cap ≤ maxLen ∧ zs.length = cap ∧ (∀ i, i < zs.length → w.cell? (x.add i) = some (.int k (zs.getD i 0))) ∧ ∀ n ∈ zs, (Lit.int k n).wf = true

/-! ### STEP 1: THE WALK: the Go text returns true, AND WRITES NOTHING THAT WAS THERE: 'Below w.heap.size w w'' (Derived/Below.lean: '.refl', '.alloc', '.drew', '.setCell' at a new block, '.trans'). Open each 'IsRow' by 'rcases' AHEAD of 'go_enter'; part every test ahead of the walk. -/
theorem row_reads {w : World} {a : Option Addr} {n c : Nat} {z : List Int} (h : IsRow .i64 w a n c z) : 0 < n → ∃ x : Addr, a = some x ∧ ∀ i, i < n → ∃ z : Int, w.cell? (x.add i) = some (.int .i64 z) := by
  intro hn
  rcases h with ⟨_, h0, _⟩ | ⟨x, e, hle, _, hz, hc, _⟩
  · omega
  · exact ⟨x, e, fun i hi => ⟨_, hc i (by omega)⟩⟩

open Go.Proofs.YtofemhaepadggaaDoor in
set_option maxRecDepth 100000 in
set_option maxHeartbeats 4000000 in
theorem walk (a0 : Option Addr) (len0 cap0 : Nat) (z0 : List Int) (w : World) (w0 : IsRow .i64 w a0 len0 cap0 z0) (m : Int) (hm : w.cell? ⟨0, 0, none⟩ = some (.int .i64 m)) :
    Calls Tryd.prog 3 #[.slice a0 len0 cap0] w fun e w' => e = .returned (.bool true) ∧ Below w.heap.size w w' := by
  have h0lt : 0 < w.heap.size := World.block_lt_of_cell? w _ hm
  have hT0 := tape_new a0 len0 cap0 w (row_reads w0)
  have hK' := Lib.hid (fun W hW => lknown_any W m hW)
  have keepm : Hid (∀ W, Only (fun j => j = w.heap.size) w W → W.cell? ⟨0, 0, none⟩ = some (.int .i64 m)) := fun W ho => (World.cell?_of_block (ho.block 0 h0lt (fun e => by have e : 0 = w.heap.size := e; omega))).trans hm
  have hG := Lib.hid (gtokens_any w.heap.size w.heap.size 0 false _ hT0 (by omega))
  clear hm hT0 w0
  have hOa : Hid (Only (fun j => j = w.heap.size) w (w.alloc (.cells #[.slice a0 len0 cap0, .int .i64 0] 25))) := (Only.refl _ w).alloc _
  have hBs : Hid (w.heap.size < (w.alloc (.cells #[.slice a0 len0 cap0, .int .i64 0] 25)).heap.size) := by
    show w.heap.size < (Array.push _ _).size
    rw [Array.size_push]; omega
  go_enter Tryd.func3, Tryd.ntmps3
  go_wp2_with fail
  refine hG.out.mono ?_
  rintro e v2 ⟨l, v, q, rfl, hl4, _, hin, hq, hTk, hTx, hOx⟩
  generalize w.alloc (.cells #[.slice a0 len0 cap0, .int .i64 0] 25) = W1 at *
  have hT2 := Lib.hid hTx
  have hO2 := Lib.hid (hOa.out.trans hOx)
  have hin' := Lib.hid (hin (by first | exact rfl | exact trivial))
  have hTk' := Lib.hid hTk
  have hgv : Hid (∀ j, v.ownBlock = some j → w.heap.size < j) := fun j hj => Nat.lt_of_lt_of_le hBs.out (World.ownsRow.lt hTk j hj).1
  obtain ⟨pv, cv, rfl, hsh⟩ := Toks.shape hTk
  clear hTx hOx hTk hG hin hOa
  obtain ⟨n, hn⟩ : ∃ n, l.length = n := ⟨_, rfl⟩
  have hcv : n ≤ cv := by
    have h := hTk'.out
    rcases h.2 with ⟨h1, h2⟩ | ⟨g9, c9, cur, h1, _, _, h3, _⟩
    · rw [← hn, h2]; omega
    · injection h1 with _ _ h4
      rw [← hn, h4]; exact h3
  clear hsh
  rw [hn] at hl4 hTk' hgv ⊢
  have hn' := Lib.hid hn; clear hn
  have hC1 := Lib.hid (one_new w.heap.size w.heap.size q 4 4 sA v2 hT2.out (by omega) rfl (by omega) (by omega))
  clear hT2
  go_wp2_with fail
  refine hC1.out.mono ?_
  rintro e v3 ⟨⟨s1, hs1, rfl⟩, hTx, hOx⟩
  have hs1' := (sA_sep s1 hs1).2
  have hs0' := Lib.hid (sA_sep s1 hs1).1
  have hT3 := Lib.hid hTx
  have hO3 := Lib.hid (hO2.out.trans hOx)
  have hTk3 : Hid (Toks v3 W1.heap.size (.slice pv n cv) l) := own_only hTk'.out hOx fun j hj e => by have := hgv.out j hj; have e : j = w.heap.size := e; omega
  clear hTx hOx hs1 hC1 hO2 hTk'
  go_wp2_with fail
  go_loopw [5, 6] (fun s5 s6 wr => ∃ (k p : Nat) (S : ByteArray), s5 = .string S ∧ s6 = .int .i64 k ∧ k ≤ n ∧ p ≤ q + 1 + k ∧ S.size ≤ 3 + k * 50 ∧ Hid (SepAt s1 S l k) ∧ Hid (Toks wr W1.heap.size (.slice pv n cv) l) ∧ Hid (Tape wr w.heap.size w.heap.size p) ∧ Hid (Only (fun j => j = w.heap.size) w wr)) (fun _ s6 _ => n - (intOf s6).toNat)
  case atStart => exact ⟨0, q + 1, s1, rfl, rfl, by omega, by omega, by omega, SepAt.start s1 l, hTk3, hT3, hO3⟩
  case round =>
    clear hTk3 hT3 hO3
    obtain ⟨k, p, S, rfl, rfl, hk, hp, hS, hsep, hTk, hT, hO⟩ := hrel
    by_cases hkn : k < n
    · obtain ⟨x, hx⟩ : ∃ x, l[k]? = some x := ⟨_, List.getElem?_eq_getElem (by have := hn'.out; omega)⟩
      have hxg := hin'.out x (List.mem_of_getElem? hx)
      obtain ⟨gb, rfl⟩ : ∃ gb, pv = some ⟨gb, 0, none⟩ := by
        rcases hTk.out.2 with ⟨_, h2⟩ | ⟨g9, c9, cur, h1, _⟩
        · have := hn'.out; omega
        · injection h1 with h4 _ _
          exact ⟨g9, h4⟩
      have hF := fun c => format_any [x] _ m wr (TokAt.row (TokAt.sub (c := c) (by have := hTk.out; rw [← hn'.out] at this; exact this) hx)) (by simp) (fun y hy => by have e : y = x := (by simpa using hy); rw [e]; exact hxg.small.fit) (keepm.out wr hO.out)
      have hone := hxg.small.one_len
      have hfm : L.fmt ([x].map TB.tok) = (L.one x.tok, 0) := by
        rw [(fmt_small (l := [x]) (fun y hy => by have e : y = x := (by simpa using hy); rw [e]; exact hxg) (by simp)).1]
        simp [L.sepFirst]
      rw [hfm] at hF
      have hF' := Lib.hid hF; clear hF hfm
      have hx' := Lib.hid hx; clear hx hxg
      have ik : (k : Int) < (n : Int) := by omega
      have ik0 : (0 : Int) ≤ (k : Int) := by omega
      have i1 : (0 : Int) ≤ (k : Int) + 1 := by omega
      have i2 : (k : Int) + 1 ≤ (cv : Int) := by omega
      have i3 : (k : Int) ≤ (k : Int) + 1 := by omega
      have i4 : ((k : Int) + 1).toNat = k + 1 := by omega
      have i5 : k + 1 - k = 1 := by omega
      by_cases hkc : k = cv
      · omega
      · go_wp2_with fail
        refine (hF'.out _).mono ?_
        rintro e v4 ⟨⟨X, rfl, hX⟩, hb3⟩
        have hX : bs X = L.one x.tok := hX
        have hXs : X.size ≤ 44 := by rw [← length_bs, hX]; exact hone
        have hX' := Lib.hid hX; clear hX
        have hTk4 : Hid (Toks v4 W1.heap.size (.slice (some ⟨gb, 0, none⟩) n cv) l) := own_only hTk.out (Only.of_below (S := fun _ => False) hb3 (fun j h1 h2 => absurd h1 (by omega))) fun j hj e => e
        have hT4 : Hid (Tape v4 w.heap.size w.heap.size p) := hT.out.below hb3
        have hO4 : Hid (Only (fun j => j = w.heap.size) w v4) := hO.out.trans (Only.of_below hb3 (fun j h1 h2 => absurd h1 (by omega)))
        clear hTk hT hO hb3 hF'
        have hC := Lib.hid (one_new w.heap.size w.heap.size p 5 5 sB v4 hT4.out (by omega) rfl (by omega) (by omega))
        go_wp2_with fail
        refine hC.out.mono ?_
        rintro e v5 ⟨⟨s4, hs4, rfl⟩, hTx, hOx⟩
        have hs4' := (sB_sep s4 hs4).2.2
        have hs4i := Lib.hid hs4
        have hT5 := Lib.hid hTx
        have hO5 := Lib.hid (hO4.out.trans hOx)
        have hTk5 : Hid (Toks v5 W1.heap.size (.slice (some ⟨gb, 0, none⟩) n cv) l) := own_only hTk4.out hOx fun j hj e => by have := hgv.out j hj; have e : j = w.heap.size := e; omega
        clear hTx hOx hs4 hT4 hO4 hTk4 hC
        go_wp2_with fail
        go_roundw
        case rel => exact ⟨k + 1, p + 1, S ++ (X ++ s4), rfl, by go_num, by omega, by omega, by rw [ByteArray.size_append, ByteArray.size_append]; omega, hsep.out.next hx'.out hX'.out hs4i.out, hTk5, hT5, hO5⟩
        case measure => simp [intOf]; omega
    · obtain rfl : k = n := by omega
      have hSpec := hsep.out.tokens hn'.out hin'.out hs0'.out (by omega)
      have hA := fun W => tokens_any S W
      rw [hSpec] at hA
      have hA' := Lib.hid hA; clear hA hSpec
      go_wp2_with fail
      refine (hA'.out _).mono ?_
      rintro e v4 ⟨⟨va, la, rfl, hla, hTa⟩, hb4⟩
      have hla : la.map TB.tok = l.map TB.tok := hla
      obtain rfl : la = l := toks_inj hla
      have hO4 : Hid (Only (fun j => j = w.heap.size) w v4) := hO.out.trans (Only.of_below hb4 (fun j h1 h2 => absurd h1 (by omega)))
      have hTk4 : Toks v4 W1.heap.size (.slice pv k cv) la := own_only hTk.out (Only.of_below (S := fun _ => False) hb4 (fun j h1 h2 => absurd h1 (by omega))) fun j hj e => e
      have hS0 := sameT_any la la _ va _ _ v4 hTk4 hTa (by have := hn'.out; omega)
      rw [decide_eq_true (rfl : la = la)] at hS0
      have hS' := Lib.hid hS0; clear hS0
      clear hb4 hTk4 hTa hla hA' hO hTk hT
      go_wp2_with fail
      refine hS'.out.mono ?_
      rintro e v5 ⟨rfl, hb5⟩
      have hO5 : Hid (Only (fun j => j = w.heap.size) w v5) := hO4.out.trans (Only.of_below hb5 (fun j h1 h2 => absurd h1 (by omega)))
      clear hb5 hO4 hS'
      have m5 := Lib.hid (keepm.out v5 hO5.out)
      go_wp2_with fail
      refine (hK'.out _ m5.out).mono ?_
      rintro e v6 ⟨rfl, hb6⟩
      have hO6 : Hid (Only (fun j => j = w.heap.size) w v6) := hO5.out.trans (Only.of_below hb6 (fun j h1 h2 => absurd h1 (by omega)))
      clear hb6
      go_wp2_with fail
      go_ret
      exact ⟨rfl, hO6.out.below (fun j e => by have e : j = w.heap.size := e; omega) (Nat.le_refl _)⟩

/-! ### THE ROW's STEP: WRITTEN OUT: LEAVE IT -/
set_option maxRecDepth 100000 in
theorem lifted (os : Os) (started : os.Started) (H : Type) (enc : TypeId × Value → H) :
    ReturnsInHanded {} Tryd.checked os 3 .any (fun w args => (Rows.lexerSeparatorsSpec.pre enc Tryd.prog Tryd.f3 Rows.lexerSeparatorsRow.domain false w args ∧ laidMetH Tryd.prog Rows.lexerSeparatorsRow.laid w) ∧ sizedMet enc Tryd.prog Tryd.f3 (OpenSpec.ofChange Rows.lexerSeparatorsSpec) false w args) (Rows.lexerSeparatorsSpec.post enc Tryd.prog Tryd.f3 false true false false) := by
  refine handed_and_shaped (C := Tryd.checked) (X := fun w _ => laidMetH Tryd.prog Rows.lexerSeparatorsRow.laid w) (fun _ _ _ hh h => h.of_heap hh) own started (by kernel_rfl) Tryd.func3
    (ChangeSpec.witness_shaped (enc := enc) (C := Tryd.checked) (os := os) (X := fun w _ => laidMetH Tryd.prog Rows.lexerSeparatorsRow.laid w) false (World.laidAll Tryd.prog os Rows.lexerSeparatorsRow.laid) #[.slice none 0 0] 8 (World.laidAll_os _ _ _)
      (World.shaped_of_ZipB (by kernel_rfl) (by kernel_rfl)) (by kernel_rfl) (by kernel_rfl) (by kernel_rfl)
      (by rw [MakeChecks.laidMetH_plain _ _ _ (by kernel_rfl)]; exact laidMet_laidAll _ (by kernel_rfl) (by kernel_rfl))) ?_
  intro W base args ds gs before hval0 hW hcnd hsh _
  have hval : ∀ (j : Nat) t v, Tryd.f3.params[j]? = some t → args[j]? = some v → Value.okWide Tryd.prog W .any base t v := hval0
  have hW' := hW
  obtain ⟨p, q, hA0, hV, rfl, hfz, hnd⟩ := hW
  have hA : DataW.TrodAll enc Tryd.prog W 0 (fun _ => true) true Tryd.f3.params.toList args.toList ds p := hA0
  rw [Tryd.params3] at hA hval
  obtain ⟨v0, vs0, d0, ds0, p0, q0, hargs, rfl, rfl, h0, r0⟩ := trodAll_cons hA
  obtain ⟨rfl, rfl, rfl⟩ := trodAll_nil r0
  obtain rfl : args = #[v0] := by cases args; simp_all
  obtain ⟨rfl, rfl⟩ := trodVars_none hV
  obtain ⟨a0, len0, cap0, rfl⟩ := okWide_slice Tryd.underlying22 (hval 0 22 v0 rfl rfl)
  have k0 := h0
  have lt0 : ∀ x ∈ p0, x.block < W.heap.size := by obtain ⟨m, hm⟩ := k0; exact DataW.trod_lt m _ _ _ hm
  obtain ⟨z0, w0⟩ : ∃ zs, IsRow .i64 W a0 len0 cap0 zs := by
    obtain ⟨fuel, hf⟩ := h0
    rcases open_ints Tryd.underlying22 Tryd.underlying3 (by kernel_rfl) hf with ⟨hcs, _⟩ | ⟨x, l, c, zs, hcs, _, hl, hm, hz, _, hcell, hwz⟩
    · simp [Value.cells] at hcs
      obtain ⟨rfl, rfl, rfl⟩ := hcs
      exact ⟨[], .inl ⟨rfl, rfl, rfl, rfl⟩⟩
    · simp [Value.cells] at hcs
      obtain ⟨rfl, rfl, rfl⟩ := hcs
      exact ⟨zs, .inr ⟨_, rfl, hl, hm, by simpa using hz, hcell, hwz⟩⟩
  clear hA0 hval0
  obtain ⟨m, hm⟩ := Tryd.laysM143.s1_3 W hsh
  refine (walk a0 len0 cap0 z0 W w0 m hm).mono fun e W' ⟨he, bel⟩ => ?_
  subst he
  exact ⟨_, rfl, _, _, _, [], _, [], hW', trodAll_mk1 (shut_bool Tryd.underlying4 _), (trodAll_cons_mk (Below.trod laidOut (by kernel_rfl) (of_decide_eq_true (by kernel_rfl)) k0 bel lt0) trodAll_mk0), rfl, bel.frame _, fun h => by cases h⟩

theorem over : Rows.lexerSeparatorsRow.holds Tryd.pinned (OpenSpec.ofChange Rows.lexerSeparatorsSpec) :=
  OpenClaim.holds_of_wide 3 Tryd.f3 rfl rfl rfl rfl rfl rfl rfl ⟨rfl, rfl, rfl, rfl, rfl⟩ rfl rfl rfl rfl rfl (by kernel_rfl) Tryd.func3 (by kernel_rfl)
    (of_decide_eq_true (by kernel_rfl)) (by unfold Func.isWrapper; first | (rw [if_pos (by decide +kernel)]; kernel_rfl) | (rw [if_neg (by decide +kernel)]; exact ⟨rfl, rfl⟩))
    (fun os started H enc _ => lifted os started H enc)

/-- ████ THE STATEMENT: THE TIED CARD ████ -/
theorem proved : Rows.LexerSeparatorsCardSaid :=
  Claim7.holds_tied_plain_at .later [] [.data, .pinned] true (true, "d802cc47a91f01ff99b42efe3e5faa499c9dd62bc719bdb57b0c9f4495fbecae") false over (fun _ h => by cases h) (by kernel_rfl) (fun _ h => by cases h) lexerSeparators_row_tie rfl ⟨rfl, rfl⟩ (by kernel_rfl) rfl
    (fun f fn hf hfn => by
      obtain rfl : f = 3 := Option.some.inj ((show Tryd.prog.funcNamed "coldplug/coldpluglaw08.LexerSeparators" = some 3 by kernel_rfl).symm.trans hf) |>.symm
      obtain rfl : fn = Tryd.f3 := (Option.some.inj (Tryd.func3.symm.trans hfn)).symm
      exact ⟨by kernel_rfl, fun j t ht => by
        rw [Tryd.params3] at ht
        have hm : t ∈ [22] := by
          have := Array.mem_of_getElem? ht
          simp at this ⊢
          exact this
        have hall : ([22].all fun u => !Tryd.prog.wantsStandIn u) = true := by kernel_rfl
        exact (show Tryd.prog.wantsStandIn t = false by simpa using List.all_eq_true.1 hall t hm)⟩)
    (by kernel_rfl)
#print axioms proved
end Go.Proofs.YtofemhaepadggaaDoor.lexerSeparators
