/-
  The law HelperFirst, with the tied card of its row: proved for all inputs, without conditions.
-/
import Derived.Test.YtgjnohkcnfdmkaaDoorRows
import Derived.Test.YtgjnohkcnfdmkaaDoorCards
import Derived.Test.YtgjnohkcnfdmkaaDoorTie
import Derived.Test.YtgjnohkcnfdmkaaDoorDoor
import Derived.Test.YtgjnohkcnfdmkaaDoorShut
import Derived.Test.YtgjnohkcnfdmkaaDoorHelpLaw
import Derived.WalkKit
import Derived.ProofKit
import Derived.OpenShut
import Derived.ShutString
import Derived.LaidMore
import Derived.Lay
import Derived.SevenTiedAt
import Derived.Stop.Joined
import Derived.ChangeOld
import Derived.Below
import Derived.Laws.AppendOwnNone
namespace Go.Proofs.YtgjnohkcnfdmkaaDoor.helperFirst
open Go.ChangeShapes Go.WideShapes Go.ChangeAt Go.RowKit
open Go.ChangeMaps (open_string shut_string)
open Go.Proofs.YtgjnohkcnfdmkaaDoor
set_option linter.unusedVariables false

theorem own : ownKnob Tryd.prog.godebug = none := by kernel_rfl
theorem laidOut : laidOutB Tryd.prog = true := by kernel_rfl

/-- WHAT THE WALK IS TOLD OF A SLICE OF INTEGERS THAT CAME IN: it is nil; or it leads to a row of 'cap' cells, the numbers 'zs' (the first 'len' are its elements, the rest its spare room), each fitting its kind. -/
def IsRow (k : IntKind) (w : World) (a : Option Addr) (len cap : Nat) (zs : List Int) : Prop :=
  (a = none ∧ len = 0 ∧ cap = 0 ∧ zs = []) ∨
  ∃ x, a = some x ∧ len ≤ cap ∧ cap ≤ maxLen ∧ zs.length = cap ∧ (∀ i, i < zs.length → w.cell? (x.add i) = some (.int k (zs.getD i 0))) ∧ ∀ n ∈ zs, (Lit.int k n).wf = true

/-! ### STEP 1: THE WALK: the Go text returns true, AND WRITES NOTHING THAT WAS THERE: 'Below w.heap.size w w'' (Derived/Below.lean: '.refl', '.alloc', '.drew', '.setCell' at a new block, '.trans'). Open each 'IsRow' by 'rcases' AHEAD of 'go_enter'; part every test ahead of the walk. -/
theorem row_reads {w : World} {a : Option Addr} {n c : Nat} {z : List Int} (h : IsRow .i64 w a n c z) : 0 < n → ∃ x : Addr, a = some x ∧ ∀ i, i < n → ∃ z : Int, w.cell? (x.add i) = some (.int .i64 z) := by
  intro hn
  rcases h with ⟨_, h0, _⟩ | ⟨x, e, hle, _, hz, hc, _⟩
  · omega
  · exact ⟨x, e, fun i hi => ⟨_, hc i (by omega)⟩⟩

open Go.Proofs.YtgjnohkcnfdmkaaDoor in
set_option maxRecDepth 100000 in
set_option maxHeartbeats 4000000 in
theorem walk (a0 : Option Addr) (len0 cap0 : Nat) (z0 : List Int) (w : World) (w0 : IsRow .i64 w a0 len0 cap0 z0) (m : Int) (hm : w.cell? ⟨0, 0, none⟩ = some (.int .i64 m)) :
    Calls Tryd.prog 5 #[.slice a0 len0 cap0] w fun e w' => e = .returned (.bool true) ∧ Below w.heap.size w w' := by
  have hT0 := tape_new a0 len0 cap0 w (row_reads w0)
  obtain ⟨i0, hi0, hz0, hz1, hz2⟩ := info_parts info_helper
  have hi0' := Lib.hid hi0; clear hi0
  have hz0' := Lib.hid hz0; clear hz0
  have hz1' := Lib.hid hz1; clear hz1
  have hz2' := Lib.hid hz2; clear hz2
  have h0lt : 0 < w.heap.size := World.block_lt_of_cell? w _ hm
  have hK := fun W hW => hknown_any W m hW
  have hK' := Lib.hid hK; clear hK
  have hT0' := Lib.hid hT0; clear hT0 w0
  have hm' := Lib.hid hm; clear hm
  have keep : ∀ W, Only (fun j => j = w.heap.size) w W → Below w.heap.size w W ∧ W.cell? ⟨0, 0, none⟩ = some (.int .i64 m) := fun W h =>
    ⟨h.below (fun k e => by omega) (Nat.le_refl _), (World.cell?_of_block (h.block 0 h0lt (by omega))).trans hm'.out⟩
  have keep' := Lib.hid keep; clear keep
  go_enter Tryd.func5, Tryd.ntmps5
  go_wp2_with fail
  refine (helpers_any w.heap.size w.heap.size 0 _ hT0'.out (by omega)).mono ?_
  rintro e v1 ⟨l, v, lim, q, rfl, hl1, hl2, hin, hlen, hq, hown, hT1, hO1⟩
  have k1 := Lib.hid (((Only.refl (fun j => j = w.heap.size) w).alloc _).trans hO1)
  have hin' := Lib.hid hin
  have hown' := Lib.hid hown
  have hT1' := Lib.hid hT1
  clear hin hown hT1 hO1 hT0'
  go_wp2_with fail
  refine (command_any w.heap.size w.heap.size q _ hT1'.out (by omega)).mono ?_
  rintro e v2 ⟨⟨c, hc, rfl⟩, hT2, hO2⟩
  have k2 := Lib.hid (k1.out.trans hO2)
  have hown2 : Hid (HOwn v2 (w.heap.size + 1) v l) := own_mono (own_only hown'.out hO2 fun j hj e => by have := (World.ownsRow.lt hown'.out j hj).1; simp at this; omega) (by simp)
  clear hT2 hO2 hT1' hown' k1
  obtain ⟨p, cp, rfl⟩ := hown2.out.shape
  have hat : HelpersAt v2 (.slice p l.length cp) l := HOwn.at hown2.out (by omega)
  have hsz : ∀ h ∈ l, h.cmd.size ≤ 1000000000000 := fun h hh => by have := (allH_good h (hin'.out h hh)).1; omega
  have hC := call_any l (.slice p l.length cp) lim 0 c v2 hat hsz (by omega)
  have hF1 : (callS l lim 0 c).2.2 = 143 ↔ l.find? (hits c) = none := callS_none l lim c
  have hF2 := callS_first l lim 0 c
  have hCC := fun acc vo W hW (hs : ∀ h ∈ acc, h.cmd.size ≤ 1000000000000) (he : acc = (l.find? (hits c)).toList) => by
    have := call_any acc vo lim 0 c W hW hs (by omega)
    rw [he, hF2] at this
    exact this
  generalize (callS l lim 0 c).1 = rs at *
  generalize (callS l lim 0 c).2.1 = rn at *
  generalize (callS l lim 0 c).2.2 = re at *
  obtain ⟨n, hn⟩ : ∃ n, l.length = n := ⟨_, rfl⟩
  rw [hn] at hC hown2 hlen ⊢
  have hn' := Lib.hid hn
  have hC' := Lib.hid hC; clear hC hat hF2 hn
  have hCC' := Lib.hid hCC; clear hCC
  have hF1' := Lib.hid hF1; clear hF1
  have hsz' := Lib.hid hsz; clear hsz hin'
  have hMt := fun (h : Hp) W (hh : h ∈ l) => match_any h.cmd c W (hsz'.out h hh) (by omega)
  have hMt' := Lib.hid hMt; clear hMt
  have keep2 := Lib.hid (keep'.out v2 k2.out); clear keep' k2
  go_wp2_with fail
  refine hC'.out.mono ?_
  rintro e v3 ⟨rfl, hb3⟩
  have hown3 : Hid (HOwn v3 (w.heap.size + 1) (.slice p n cp) l) := own_below hown2.out hb3
  have hb23 := Lib.hid hb3; clear hb3
  have hsz3 : Hid (v2.heap.size ≤ v3.heap.size) := hb23.out.size
  have hkb := Lib.hid (keep2.out.1.trans (hb23.out.mono keep2.out.1.size))
  have fin : ∀ W, Below v3.heap.size v3 W → Below w.heap.size w W ∧ W.cell? ⟨0, 0, none⟩ = some (.int .i64 m) := fun W h => by
    have hbb := hkb.out.trans (h.mono hkb.out.size)
    exact ⟨hbb, (World.cell?_of_block (hbb.block 0 h0lt)).trans hm'.out⟩
  have fin' := Lib.hid fin; clear fin keep2 hC' hown2 hb23
  have hB3 : Hid (w.heap.size ≤ v3.heap.size) := hkb.out.size
  have hX3lt : Hid (∀ g : Nat, p = some ⟨g, 0, none⟩ → g < v3.heap.size) := fun g e => (World.ownsRow.lt hown3.out g (by rw [e]; rfl)).2
  clear hkb
  go_wp2_with fail
  go_loopw [10, 11] (fun s10 s11 wr => ∃ (k : Nat) (acc : List Hp) (po : Option Addr) (co na : Nat), s11 = .int .i64 k ∧ k ≤ n ∧ s10 = .slice po na co ∧ na ≤ 1 ∧ Hid (na = acc.length) ∧ Hid (acc = ((l.take k).find? (hits c)).toList) ∧ Hid (HOwn wr v3.heap.size (.slice po na co) acc) ∧ Hid (HOwn wr (w.heap.size + 1) (.slice p n cp) l) ∧ Hid (Below v3.heap.size v3 wr)) (fun _ s11 _ => n - (intOf s11).toNat)
  case atStart => exact ⟨0, [], none, 0, 0, rfl, by omega, rfl, by omega, rfl, rfl, World.ownsRow_nil _ _ _ _, hown3, Below.refl _ _⟩
  case round =>
    obtain ⟨k, acc, po, co, na, rfl, hk, rfl, hna, hacn, hacc, hO, hX, hbr⟩ := hrel
    clear hown3
    have hC2f := fun (hf : acc = (l.find? (hits c)).toList) => hCC'.out acc (.slice po na co) wr (HOwn.at hO.out (by have := hacn.out; omega)) (fun h hh => hsz'.out h (by
      rw [hf] at hh
      simp at hh
      exact List.mem_of_find?_eq_some hh)) hf
    have hC2f' := Lib.hid hC2f; clear hC2f
    by_cases hna0 : na = 0
    · subst hna0
      have hnil : acc = [] := List.eq_nil_of_length_eq_zero hacn.out.symm
      subst hnil
      have hfn : (l.take k).find? (hits c) = none := by
        have := hacc.out
        cases h : (l.take k).find? (hits c) with
        | none => rfl
        | some x => rw [h] at this; simp at this
      clear hacc hacn
      by_cases hkn : k < n
      · have i1 : (k : Int) < (n : Int) := by omega
        obtain ⟨h, hh⟩ : ∃ h, l[k]? = some h := ⟨_, List.getElem?_eq_getElem (by have := hn'.out; omega)⟩
        obtain ⟨g, rfl, hg, c0, c1, c2, c3⟩ := HOwn.cells hX.out hh
        have hMc := hMt'.out h wr (List.mem_of_getElem? hh)
        have hfn' := Lib.hid hfn; clear hfn
        have hh' := Lib.hid hh; clear hh
        have c1' := Lib.hid c1; clear c1
        have c2' := Lib.hid c2; clear c2
        have c3' := Lib.hid c3; clear c3
        have c0' := Lib.hid c0
        obtain ⟨b, hbb⟩ : ∃ b, G.matchS (bs h.cmd) (bs c) = b := ⟨_, rfl⟩
        have hbb' : Hid (hits c h = b) := hbb
        rw [hbb] at hMc
        have hMc' := Lib.hid hMc; clear hMc hbb
        clear hC2f' hCC'
        have hglt : g < v3.heap.size := hX3lt.out g rfl
        obtain ⟨cm, ou, fa, ti⟩ := h
        simp only at c0 c0' c1' c2' c3' hMc'
        cases b with
        | false =>
          go_wp2_with fail
          refine hMc'.out.mono ?_
          rintro e v4 ⟨rfl, hb4⟩
          have hb4' := Lib.hid (hbr.out.trans (hb4.mono hbr.out.size))
          have hO4 : Hid (HOwn v4 v3.heap.size (.slice po 0 co) []) := own_below hO.out hb4
          have hX4 : Hid (HOwn v4 (w.heap.size + 1) (.slice (some ⟨g, 0, none⟩) n cp) l) := own_below hX.out hb4
          clear hb4 hO hX hbr c0 c0' c1' c2' c3'
          have hacc2 : Hid (([] : List Hp) = ((l.take (k + 1)).find? (hits c)).toList) := by
            unfold Hid
            rw [find_take_no hh'.out hfn'.out hbb'.out]; rfl
          go_wp2_with fail
          go_roundw
          case rel => exact ⟨k + 1, [], po, co, 0, by go_num, by omega, rfl, by omega, rfl, hacc2, hO4, hX4, hb4'⟩
          case measure => simp [intOf]; omega
        | true =>
          have hacc2 : Hid ((l.take (k + 1)).find? (hits c) = some ⟨cm, ou, fa, ti⟩) := find_take_yes hh'.out hfn'.out hbb'.out
          go_wp2_with fail
          refine hMc'.out.mono ?_
          rintro e v4 ⟨rfl, hb4⟩
          have e4 : ∀ i, v4.cell? ⟨g, i, none⟩ = wr.cell? ⟨g, i, none⟩ := fun i => World.cell?_of_block (hb4.block g hg)
          have d0 := (e4 _).trans c0'.out
          have d1 := (e4 _).trans c1'.out
          have d2 := (e4 _).trans c2'.out
          have d3 := (e4 _).trans c3'.out
          have hb4' := Lib.hid (hbr.out.trans (hb4.mono hbr.out.size))
          have hO4 : Hid (HOwn v4 v3.heap.size (.slice po 0 co) []) := own_below hO.out hb4
          have hX4 : Hid (HOwn v4 (w.heap.size + 1) (.slice (some ⟨g, 0, none⟩) n cp) l) := own_below hX.out hb4
          have hs4 : v3.heap.size ≤ v4.heap.size := hb4'.out.size
          clear hb4 hO hX hbr c0 c0' c1' c2' c3' e4
          go_wp2_with (at_builtin; refine wpList_append_own _ rfl (.tmp 51) (.tmp 56) 27 rfl v3.heap.size 40 i0 (.agg #[.string ⟨#[]⟩, .string ⟨#[]⟩, .bool false, .int .i64 0]) 4 48 Tryd.underlying27 hi0'.out hz0'.out hz1'.out hz2'.out rfl (by decide) (.slice po 0 co) 0 (flatH []) rfl (World.ownsRow.alloc hO4.out _) ⟨v4.heap.size, 0, none⟩ 1 1 [.string cm, .string ou, .bool fa, .int .i64 ti] rfl rfl (cell_four_new _ _ _ _ _ _) (by intro u hu; simp at hu; rcases hu with rfl | rfl | rfl | rfl <;> rfl) (by simp only [maxLen]; omega) (by omega) (by simp; omega) ?_; intro v' w1 hown1 hgrow _)
          have hown1' : HOwn w1 v3.heap.size v' [⟨cm, ou, fa, ti⟩] := hown1
          obtain ⟨po2, co2, rfl⟩ := hown1'.shape
          have hown2' := Lib.hid hown1'
          have hbw := Lib.hid ((hb4'.out.alloc hs4 (.cells #[.string cm, .string ou, .bool fa, .int .i64 ti] 40)).grown hgrow (by simp; omega) (fun j e => (World.ownsRow.lt hO4.out j e).1))
          have hXw : Hid (HOwn w1 (w.heap.size + 1) (.slice (some ⟨g, 0, none⟩) n cp) l) := World.ownsRow.kept (World.ownsRow.alloc hX4.out _) hgrow (.inr fun e => by
            have h1 : v3.heap.size ≤ g := (World.ownsRow.lt hO4.out _ e.symm).1
            have h2 := hglt
            omega)
          clear hown1 hown1' hgrow d0 d1 d2 d3
          go_roundw
          case rel => exact ⟨k + 1, [⟨cm, ou, fa, ti⟩], po2, co2, 1, by go_num, by omega, rfl, by omega, rfl, by unfold Hid; rw [hacc2.out]; rfl, hown2', hXw, hbw⟩
          case measure => simp [intOf]; omega
      · obtain rfl : k = n := by omega
        have hfl : l.find? (hits c) = none := by rwa [List.take_of_length_le (by have := hn'.out; omega)] at hfn
        have hC2 := hC2f'.out (by rw [hfl]; rfl)
        have hre : re = 143 := hF1'.out.2 hfl
        have hC2' := Lib.hid hC2; clear hC2 hfl hfn hC2f' hCC' hMt' hF1'
        subst hre
        go_wp2_with fail
        refine hC2'.out.mono ?_
        rintro e v5 ⟨rfl, hb5⟩
        obtain ⟨k5, m5⟩ := fin'.out v5 (hbr.out.trans (hb5.mono hbr.out.size))
        have k5' := Lib.hid k5; clear k5 hb5
        have m5' := Lib.hid m5; clear m5
        go_wp2_with fail
        refine (hK'.out _ m5'.out).mono ?_
        rintro e v6 ⟨rfl, hb6⟩
        have k6 := Lib.hid (k5'.out.trans (hb6.mono k5'.out.size)); clear hb6
        go_wp2_with fail
        go_ret
        exact ⟨rfl, k6.out⟩
    · obtain rfl : na = 1 := by omega
      obtain ⟨h, rfl⟩ : ∃ h, acc = [h] := List.length_eq_one_iff.1 hacn.out.symm
      have hfs : l.find? (hits c) = some h := by
        have := hacc.out
        cases hq : (l.take k).find? (hits c) with
        | none => rw [hq] at this; simp at this
        | some x =>
          rw [hq] at this
          simp at this
          subst this
          exact find_of_take hq
      have hC2 := hC2f'.out (by rw [hfs]; rfl)
      have hre : ¬ re = 143 := fun e => by have := hF1'.out.1 e; rw [hfs] at this; cases this
      have hC2' := Lib.hid hC2; clear hC2 hfs hacc hacn hC2f' hCC' hMt' hF1'
      by_cases hkn : k < n
      · have i1 : (k : Int) < (n : Int) := by omega
        go_wp2_with fail
        refine hC2'.out.mono ?_
        rintro e v5 ⟨rfl, hb5⟩
        obtain ⟨k5, m5⟩ := fin'.out v5 (hbr.out.trans (hb5.mono hbr.out.size))
        have k5' := Lib.hid k5; clear k5 hb5
        have m5' := Lib.hid m5; clear m5
        go_wp2_with fail
        refine (hK'.out _ m5'.out).mono ?_
        rintro e v6 ⟨rfl, hb6⟩
        have k6 := Lib.hid (k5'.out.trans (hb6.mono k5'.out.size)); clear hb6
        go_wp2_with fail
        go_ret
        exact ⟨by show Ending.returned (Value.bool (!(re == (143 : Int)))) = _; rw [beq_eq_false_iff_ne.2 hre]; rfl, k6.out⟩
      · have i1 : ¬ (k : Int) < (n : Int) := by omega
        go_wp2_with fail
        refine hC2'.out.mono ?_
        rintro e v5 ⟨rfl, hb5⟩
        obtain ⟨k5, m5⟩ := fin'.out v5 (hbr.out.trans (hb5.mono hbr.out.size))
        have k5' := Lib.hid k5; clear k5 hb5
        have m5' := Lib.hid m5; clear m5
        go_wp2_with fail
        refine (hK'.out _ m5'.out).mono ?_
        rintro e v6 ⟨rfl, hb6⟩
        have k6 := Lib.hid (k5'.out.trans (hb6.mono k5'.out.size)); clear hb6
        go_wp2_with fail
        go_ret
        exact ⟨by show Ending.returned (Value.bool (!(re == (143 : Int)))) = _; rw [beq_eq_false_iff_ne.2 hre]; rfl, k6.out⟩

/-! ### THE ROW's STEP: WRITTEN OUT: LEAVE IT -/
set_option maxRecDepth 100000 in
theorem lifted (os : Os) (started : os.Started) (H : Type) (enc : TypeId × Value → H) :
    ReturnsInHanded {} Tryd.checked os 5 .any (fun w args => (Rows.helperFirstSpec.pre enc Tryd.prog Tryd.f5 Rows.helperFirstRow.domain false w args ∧ laidMetH Tryd.prog Rows.helperFirstRow.laid w) ∧ sizedMet enc Tryd.prog Tryd.f5 (OpenSpec.ofChange Rows.helperFirstSpec) false w args) (Rows.helperFirstSpec.post enc Tryd.prog Tryd.f5 false true false false) := by
  refine handed_and_shaped (C := Tryd.checked) (X := fun w _ => laidMetH Tryd.prog Rows.helperFirstRow.laid w) (fun _ _ _ hh h => h.of_heap hh) own started (by kernel_rfl) Tryd.func5
    (ChangeSpec.witness_shaped (enc := enc) (C := Tryd.checked) (os := os) (X := fun w _ => laidMetH Tryd.prog Rows.helperFirstRow.laid w) false (World.laidAll Tryd.prog os Rows.helperFirstRow.laid) #[.slice none 0 0] 8 (World.laidAll_os _ _ _)
      (World.shaped_of_ZipB (by kernel_rfl) (by kernel_rfl)) (by kernel_rfl) (by kernel_rfl) (by kernel_rfl)
      (by rw [MakeChecks.laidMetH_plain _ _ _ (by kernel_rfl)]; exact laidMet_laidAll _ (by kernel_rfl) (by kernel_rfl))) ?_
  intro W base args ds gs before hval0 hW hcnd hsh _
  have hval : ∀ (j : Nat) t v, Tryd.f5.params[j]? = some t → args[j]? = some v → Value.okWide Tryd.prog W .any base t v := hval0
  have hW' := hW
  obtain ⟨p, q, hA0, hV, rfl, hfz, hnd⟩ := hW
  have hA : DataW.TrodAll enc Tryd.prog W 0 (fun _ => true) true Tryd.f5.params.toList args.toList ds p := hA0
  rw [Tryd.params5] at hA hval
  obtain ⟨v0, vs0, d0, ds0, p0, q0, hargs, rfl, rfl, h0, r0⟩ := trodAll_cons hA
  obtain ⟨rfl, rfl, rfl⟩ := trodAll_nil r0
  obtain rfl : args = #[v0] := by cases args; simp_all
  obtain ⟨rfl, rfl⟩ := trodVars_none hV
  obtain ⟨a0, len0, cap0, rfl⟩ := okWide_slice Tryd.underlying22 (hval 0 22 v0 rfl rfl)
  have k0 := h0
  have lt0 : ∀ x ∈ p0, x.block < W.heap.size := by obtain ⟨m, hm⟩ := k0; exact DataW.trod_lt m _ _ _ hm
  obtain ⟨z0, w0⟩ : ∃ zs, IsRow .i64 W a0 len0 cap0 zs := by
    obtain ⟨fuel, hf⟩ := h0
    rcases open_ints Tryd.underlying22 Tryd.underlying3 (by kernel_rfl) hf with ⟨hcs, _⟩ | ⟨x, l, c, zs, hcs, _, hl, hm, hz, _, hcell, hwz⟩
    · simp [Value.cells] at hcs
      obtain ⟨rfl, rfl, rfl⟩ := hcs
      exact ⟨[], .inl ⟨rfl, rfl, rfl, rfl⟩⟩
    · simp [Value.cells] at hcs
      obtain ⟨rfl, rfl, rfl⟩ := hcs
      exact ⟨zs, .inr ⟨_, rfl, hl, hm, by simpa using hz, hcell, hwz⟩⟩
  clear hA0 hval0
  obtain ⟨m, hm⟩ := Tryd.laysM143.s1_3 W hsh
  refine (walk a0 len0 cap0 z0 W w0 m hm).mono fun e W' ⟨he, bel⟩ => ?_
  subst he
  exact ⟨_, rfl, _, _, _, [], _, [], hW', trodAll_mk1 (shut_bool Tryd.underlying4 _), (trodAll_cons_mk (Below.trod laidOut (by kernel_rfl) (of_decide_eq_true (by kernel_rfl)) k0 bel lt0) trodAll_mk0), rfl, bel.frame _, fun h => by cases h⟩

theorem over : Rows.helperFirstRow.holds Tryd.pinned (OpenSpec.ofChange Rows.helperFirstSpec) :=
  OpenClaim.holds_of_wide 5 Tryd.f5 rfl rfl rfl rfl rfl rfl rfl ⟨rfl, rfl, rfl, rfl, rfl⟩ rfl rfl rfl rfl rfl (by kernel_rfl) Tryd.func5 (by kernel_rfl)
    (of_decide_eq_true (by kernel_rfl)) (by unfold Func.isWrapper; first | (rw [if_pos (by decide +kernel)]; kernel_rfl) | (rw [if_neg (by decide +kernel)]; exact ⟨rfl, rfl⟩))
    (fun os started H enc _ => lifted os started H enc)

/-- ████ THE STATEMENT: THE TIED CARD ████ -/
theorem proved : Rows.HelperFirstCardSaid :=
  Claim7.holds_tied_plain_at .later [] [.data, .pinned] true (true, "976c7b5ca0a6e0b7ae283dd8bbc166f4b8d42aca6b552a348e227aea158a716c") false over (fun _ h => by cases h) (by kernel_rfl) (fun _ h => by cases h) helperFirst_row_tie rfl ⟨rfl, rfl⟩ (by kernel_rfl) rfl
    (fun f fn hf hfn => by
      obtain rfl : f = 5 := Option.some.inj ((show Tryd.prog.funcNamed "coldplug/coldpluglaw14.HelperFirst" = some 5 by kernel_rfl).symm.trans hf) |>.symm
      obtain rfl : fn = Tryd.f5 := (Option.some.inj (Tryd.func5.symm.trans hfn)).symm
      exact ⟨by kernel_rfl, fun j t ht => by
        rw [Tryd.params5] at ht
        have hm : t ∈ [22] := by
          have := Array.mem_of_getElem? ht
          simp at this ⊢
          exact this
        have hall : ([22].all fun u => !Tryd.prog.wantsStandIn u) = true := by kernel_rfl
        exact (show Tryd.prog.wantsStandIn t = false by simpa using List.all_eq_true.1 hall t hm)⟩)
    (by kernel_rfl)
#print axioms proved
end Go.Proofs.YtgjnohkcnfdmkaaDoor.helperFirst
