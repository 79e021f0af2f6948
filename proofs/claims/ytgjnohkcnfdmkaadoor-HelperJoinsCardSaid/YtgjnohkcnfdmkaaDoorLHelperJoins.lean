/-
  The law HelperJoins, with the tied card of its row: proved for all inputs, without conditions.
-/
import Derived.Test.YtgjnohkcnfdmkaaDoorRows
import Derived.Test.YtgjnohkcnfdmkaaDoorCards
import Derived.Test.YtgjnohkcnfdmkaaDoorTie
import Derived.Test.YtgjnohkcnfdmkaaDoorDoor
import Derived.Test.YtgjnohkcnfdmkaaDoorShut
import Derived.Test.YtgjnohkcnfdmkaaDoorHelpKnown
import Derived.WalkKit
import Derived.ProofKit
import Derived.OpenShut
import Derived.ShutString
import Derived.LaidMore
import Derived.Lay
import Derived.SevenTiedAt
import Derived.Stop.Joined
import Derived.ChangeOld
import Derived.Below
import Derived.Laws.AppendOwnNone
namespace Go.Proofs.YtgjnohkcnfdmkaaDoor.helperJoins
open Go.ChangeShapes Go.WideShapes Go.ChangeAt Go.RowKit
open Go.ChangeMaps (open_string shut_string)
open Go.Proofs.YtgjnohkcnfdmkaaDoor
set_option linter.unusedVariables false      -- a walk need not use every 'w<i>' (that an integer argument fits its kind)

theorem own : ownKnob Tryd.prog.godebug = none := by kernel_rfl

/-! ### STEP 1: THE WALK: the Go text returns true. 'Grown w w'': the world has at most new blocks (Derived/RowKit3.lean). Part the cases AHEAD of 'go_enter' where a test parts the walk; take each callee by a contract of your own. -/
open Go.Proofs.YtgjnohkcnfdmkaaDoor in
theorem cells_at {w : World} {B : Nat} {p : Option Addr} {n c : Nat} {l : List Att} (h : Attrs w B (.slice p n c) l) {k : Nat} {x : Att} (hx : l[k]? = some x) :
    ∃ g, p = some ⟨g, 0, none⟩ ∧ g < w.heap.size ∧ w.cell? ⟨g, k * 2, none⟩ = some (.string x.1) ∧ w.cell? ⟨g, k * 2 + 1, none⟩ = some (.string x.2) := by
  obtain ⟨p', c', e, hs⟩ := h.shape
  cases e
  have hk : k < l.length := (List.getElem?_eq_some_iff.1 hx).1
  obtain ⟨g, e, hg, hc⟩ := hs (by omega)
  exact ⟨g, e, hg, hc k x hx⟩

open Go.Proofs.YtgjnohkcnfdmkaaDoor in
set_option maxHeartbeats 4000000 in
theorem walk (a0 : ByteArray) (a1 : ByteArray) (w0 : a0.size ≤ maxLen) (w1 : a1.size ≤ maxLen) (w : World) (m : Int) (hm : w.cell? ⟨0, 0, none⟩ = some (.int .i64 m)) :
    Calls Tryd.prog 6 #[.string a0, .string a1] w fun e w' => e = .returned (.bool true) ∧ Below w.heap.size w w' := by
  obtain ⟨i0, hi0, hz0, hz1, hz2⟩ := info_parts info_attr
  have h0lt : 0 < w.heap.size := World.block_lt_of_cell? w _ hm
  have hK := fun W hW => hknown_any W m hW
  have hK' := Lib.hid hK; clear hK
  have hi0' := Lib.hid hi0; clear hi0
  have hz0' := Lib.hid hz0; clear hz0
  have hz1' := Lib.hid hz1; clear hz1
  have hz2' := Lib.hid hz2; clear hz2
  have hm' := Lib.hid hm; clear hm
  by_cases s0 : a0.size ≤ 300
  · by_cases s1 : a1.size ≤ 300
    · have i1 : ¬ (300 : Int) < (a0.size : Int) := by omega
      have i2 : ¬ (300 : Int) < (a1.size : Int) := by omega
      have hX := fun W hW => items_any (a0 ++ ⟨#[59]⟩ ++ a1) m W (by rw [ByteArray.size_append, ByteArray.size_append, show (⟨#[59]⟩ : ByteArray).size = 1 from rfl]; omega) hW
      rw [items_app] at hX
      have hA := fun W hW => items_any a0 m W (by omega) hW
      have hB := fun W hW => items_any a1 m W (by omega) hW
      have hlA := items_len a0
      have hlB := items_len a1
      have hgood : ∀ x ∈ items a0 ++ items a1, keyF x.1 = true ∧ 0 < x.2.size := fun x hx => by
        rcases List.mem_append.1 hx with h | h
        · exact items_good a0 x h
        · exact items_good a1 x h
      generalize items a0 = la at *
      generalize items a1 = lb at *
      have lA : la.length ≤ 301 := by omega
      have lB : lb.length ≤ 301 := by omega
      have hn : (la ++ lb).length = la.length + lb.length := by simp
      have hX' := Lib.hid hX; clear hX
      have hA' := Lib.hid hA; clear hA
      have hB' := Lib.hid hB; clear hB
      have hgood' := Lib.hid hgood; clear hgood hlA hlB
      go_enter Tryd.func6, Tryd.ntmps6
      go_wp2_with fail
      refine (hX'.out _ hm'.out).mono ?_
      rintro e v1 ⟨⟨vx, rfl, hx⟩, hb1⟩
      obtain ⟨p, c, rfl, -⟩ := hx.shape
      rw [hn] at hx ⊢
      generalize hN : la.length + lb.length = n at *
      have hn' := Lib.hid hn; clear hn
      have hx' := Lib.hid hx; clear hx
      have hb1' := Lib.hid hb1; clear hb1
      clear hX'
      have lA' := Lib.hid lA; clear lA
      have lB' := Lib.hid lB; clear lB
      have hN' := Lib.hid hN; clear hN
      go_wp2_with fail
      go_loopw [6] (fun s6 wr => ∃ k : Nat, s6 = .int .i64 k ∧ k ≤ n ∧ Hid (Below w.heap.size w wr) ∧ Hid (Attrs wr (w.heap.size + 1) (.slice p n c) (la ++ lb))) (fun s6 _ => n - (intOf s6).toNat)
      case atStart => exact ⟨0, rfl, by omega, hb1', hx'⟩
      case round =>
        obtain ⟨k, rfl, hk, hb, hx⟩ := hrel
        have hle : n ≤ 602 := by have := lA'.out; have := lB'.out; have := hN'.out; omega
        by_cases hkn : k < n
        · obtain ⟨x, hxk⟩ : ∃ x, (la ++ lb)[k]? = some x := ⟨_, List.getElem?_eq_getElem (by have := hn'.out; omega)⟩
          obtain ⟨hg1, hg2⟩ := hgood'.out x (List.mem_of_getElem? hxk)
          obtain ⟨g, rfl, hg, c0, c1⟩ := cells_at hx.out hxk
          have hC := key_any x.1 wr
          unfold keyF at hg1
          rw [hg1] at hC
          have ev : (x.2.toList == []) = false := list_ne _ hg2
          have c1' := Lib.hid c1; clear c1
          have hC' := Lib.hid hC; clear hC hg1 hg2 hxk
          obtain ⟨x1, x2⟩ := x
          simp only at c0 c1' hC' ev
          go_wp2_with fail
          refine hC'.out.mono ?_
          rintro e v2 ⟨rfl, hb2⟩
          have c1 : v2.cell? ⟨g, k * 2 + 1, none⟩ = some (.string x2) := (World.cell?_of_block (hb2.block g hg)).trans c1'.out
          have hbb := Lib.hid (hb.out.trans (hb2.mono hb.out.size))
          have hxx : Hid (Attrs v2 (w.heap.size + 1) (.slice (some ⟨g, 0, none⟩) n c) (la ++ lb)) := own_below hx.out hb2
          clear hb2 hb hx c0 hC' c1'
          go_wp2_with fail
          go_roundw
          case rel => exact ⟨k + 1, by go_num, by omega, hbb, hxx⟩
          case measure => simp [intOf]; omega
        · obtain rfl : k = n := by omega
          have m1 := Lib.hid ((World.cell?_of_block (hb.out.block 0 h0lt)).trans hm'.out)
          go_wp2_with fail
          refine (hA'.out _ m1.out).mono ?_
          rintro e v2 ⟨⟨va, rfl, ha⟩, hb2⟩
          have k2 := Lib.hid (hb.out.trans (hb2.mono hb.out.size))
          have hx2 : Hid (Attrs v2 (w.heap.size + 1) (.slice p k c) (la ++ lb)) := own_below hx.out hb2
          have hxlt : Hid (∀ g, (Value.slice p k c).ownBlock = some g → g < wr.heap.size) := fun g hg => (World.ownsRow.lt hx.out g hg).2
          have hwr : Hid (w.heap.size ≤ wr.heap.size) := hb.out.size
          have ha' := Lib.hid ha; clear ha
          have m2 := Lib.hid ((World.cell?_of_block (k2.out.block 0 h0lt)).trans hm'.out)
          have hsz2 : wr.heap.size ≤ v2.heap.size := hb2.size
          clear hb2 hb hx m1 hA'
          go_wp2_with fail
          refine (hB'.out _ m2.out).mono ?_
          rintro e v3 ⟨⟨vb, rfl, hbv⟩, hb3⟩
          have k3 := Lib.hid (k2.out.trans (hb3.mono k2.out.size))
          have hx3 : Hid (Attrs v3 (w.heap.size + 1) (.slice p k c) (la ++ lb)) := own_below hx2.out hb3
          have ha3 : Hid (Attrs v3 wr.heap.size va la) := own_mono (own_below ha'.out hb3) (Nat.le_succ _)
          have hz3 : Hid (wr.heap.size ≤ v3.heap.size) := Nat.le_trans hsz2 hb3.size
          have hb' := Lib.hid hbv; clear hbv
          have m3 := Lib.hid ((World.cell?_of_block (k3.out.block 0 h0lt)).trans hm'.out)
          clear hb3 hx2 ha' m2 hB' k2
          have fin : ∀ (W : World) (vy : Value) (By : Nat), Below w.heap.size w W → Attrs W (w.heap.size + 1) (.slice p k c) (la ++ lb) → Attrs W By vy (la ++ lb) →
              Calls Tryd.prog 18 #[.slice p k c, vy] W fun e w' => e = .returned (.bool true) ∧ Below w.heap.size w w' ∧ w'.cell? ⟨0, 0, none⟩ = some (.int .i64 m) := fun W vy By h1 h2 h3 => by
            refine (same_any _ _ _ _ _ _ W h2 h3 (by have := lA'.out; have := lB'.out; simp; omega)).mono ?_
            rintro e w' ⟨rfl, hb⟩
            have hh := h1.trans (hb.mono h1.size)
            rw [decide_eq_true (rfl : la ++ lb = la ++ lb)]
            exact ⟨rfl, hh, (World.cell?_of_block (hh.block 0 h0lt)).trans hm'.out⟩
          have fin' := Lib.hid fin; clear fin
          rcases hb'.out.2 with ⟨rfl, h0⟩ | ⟨g, cap, cur, rfl, hbs, hg, rest⟩
          · have hlb : lb = [] := List.eq_nil_of_length_eq_zero h0
            have hya : Hid (Attrs v3 wr.heap.size va (la ++ lb)) := by rw [hlb, List.append_nil]; exact ha3.out
            clear hb' h0 hlb
            go_wp2_with (at_builtin; refine wpList_append_own_none rfl (.tmp 44) (.tmp 46) 42 rfl wr.heap.size 46 i0 2 Tryd.underlying42 hi0'.out va la.length (flatA la) rfl ha3.out rfl ?_)
            refine (fin'.out _ _ _ k3.out hx3.out hya.out).mono ?_
            rintro e v4 ⟨rfl, hb4, m4⟩
            have k4 := Lib.hid hb4
            have m4' := Lib.hid m4; clear m4 hb4 m3 fin' ha3 hx3
            go_wp2_with fail
            refine (hK'.out _ m4'.out).mono ?_
            rintro e v5 ⟨rfl, hb5⟩
            have k5 := Lib.hid (k4.out.trans (hb5.mono k4.out.size)); clear hb5
            go_wp2_with fail
            go_ret
            exact ⟨rfl, k5.out⟩
          · have hlB := lB'.out
            have hlA := lA'.out
            have hown := hb'.out
            clear hbs hg rest
            go_wp2_with (at_builtin; refine wpList_append_own _ rfl (.tmp 44) (.tmp 46) 42 rfl wr.heap.size 46 i0 (.agg #[.string ⟨#[]⟩, .string ⟨#[]⟩]) 2 32 Tryd.underlying42 hi0'.out hz0'.out hz1'.out hz2'.out rfl (by decide) va la.length (flatA la) rfl ha3.out ⟨g, 0, none⟩ lb.length cap (flatA lb) rfl (length_flatA lb) (World.ownsRow.cells hown rfl) (one_flatA lb) (by simp only [maxLen]; omega) (by omega) hz3.out ?_; intro vy W1 hownY hgrow _)
            have hy : Hid (Attrs W1 wr.heap.size vy (la ++ lb)) := by
              unfold Hid Attrs
              rw [flatA_app, List.length_append]
              exact hownY
            have hbw := Lib.hid (k3.out.grown hgrow k3.out.size (fun j e => Nat.le_trans hwr.out (World.ownsRow.lt ha3.out j e).1))
            have hxw : Hid (Attrs W1 (w.heap.size + 1) (.slice p k c) (la ++ lb)) := World.ownsRow.kept hx3.out hgrow (by
              cases hp : (Value.slice p k c).ownBlock with
              | none => exact .inl rfl
              | some j =>
                refine .inr fun e => ?_
                have h1 := hxlt.out j hp
                have h2 := (World.ownsRow.lt ha3.out j e.symm).1
                omega)
            clear hownY hgrow hown hb' ha3 hx3 k3 m3
            refine (fin'.out _ _ _ hbw.out hxw.out hy.out).mono ?_
            rintro e v4 ⟨rfl, hb4, m4⟩
            have k4 := Lib.hid hb4
            have m4' := Lib.hid m4; clear m4 hb4 fin'
            go_wp2_with fail
            refine (hK'.out _ m4'.out).mono ?_
            rintro e v5 ⟨rfl, hb5⟩
            have k5 := Lib.hid (k4.out.trans (hb5.mono k4.out.size)); clear hb5
            go_wp2_with fail
            go_ret
            exact ⟨rfl, k5.out⟩
    · have i1 : ¬ (300 : Int) < (a0.size : Int) := by omega
      have i2 : (300 : Int) < (a1.size : Int) := by omega
      go_enter Tryd.func6, Tryd.ntmps6
      go_wp2_with fail
      refine (hK'.out _ hm'.out).mono ?_
      rintro e v1 ⟨rfl, hb1⟩
      have k1' := Lib.hid hb1; clear hb1
      go_wp2_with fail
      go_ret
      exact ⟨rfl, k1'.out⟩
  · have i1 : (300 : Int) < (a0.size : Int) := by omega
    go_enter Tryd.func6, Tryd.ntmps6
    go_wp2_with fail
    refine (hK'.out _ hm'.out).mono ?_
    rintro e v1 ⟨rfl, hb1⟩
    have k1' := Lib.hid hb1; clear hb1
    go_wp2_with fail
    go_ret
    exact ⟨rfl, k1'.out⟩

/-! ### THE ROW's STEP: WRITTEN OUT: LEAVE IT -/
set_option maxRecDepth 100000 in
theorem lifted (os : Os) (started : os.Started) (H : Type) (enc : TypeId × Value → H) :
    ReturnsInHanded {} Tryd.checked os 6 .any (fun w args => (Rows.helperJoinsSpec.pre enc Tryd.prog Tryd.f6 Rows.helperJoinsRow.domain false w args ∧ laidMetH Tryd.prog Rows.helperJoinsRow.laid w) ∧ sizedMet enc Tryd.prog Tryd.f6 (OpenSpec.ofChange Rows.helperJoinsSpec) false w args) (Rows.helperJoinsSpec.post enc Tryd.prog Tryd.f6 false true false false) := by
  refine handed_and_shaped (C := Tryd.checked) (X := fun w _ => laidMetH Tryd.prog Rows.helperJoinsRow.laid w) (fun _ _ _ hh h => h.of_heap hh) own started (by kernel_rfl) Tryd.func6
    (ChangeSpec.witness_shaped (enc := enc) (C := Tryd.checked) (os := os) (X := fun w _ => laidMetH Tryd.prog Rows.helperJoinsRow.laid w) false (World.laidAll Tryd.prog os Rows.helperJoinsRow.laid) #[.string ByteArray.empty, .string ByteArray.empty] 8 (World.laidAll_os _ _ _)
      (World.shaped_of_ZipB (by kernel_rfl) (by kernel_rfl)) (by kernel_rfl) (by kernel_rfl) (by kernel_rfl)
      (by rw [MakeChecks.laidMetH_plain _ _ _ (by kernel_rfl)]; exact laidMet_laidAll _ (by kernel_rfl) (by kernel_rfl))) ?_
  intro W base args ds gs before hval0 hW hcnd hsh _
  have hval : ∀ (j : Nat) t v, Tryd.f6.params[j]? = some t → args[j]? = some v → Value.okWide Tryd.prog W .any base t v := hval0
  have hW' := hW
  obtain ⟨p, q, hA0, hV, rfl, hfz, hnd⟩ := hW
  have hA : DataW.TrodAll enc Tryd.prog W 0 (fun _ => true) true Tryd.f6.params.toList args.toList ds p := hA0
  rw [Tryd.params6] at hA hval
  obtain ⟨v0, vs0, d0, ds0, p0, q0, hargs, rfl, rfl, h0, r0⟩ := trodAll_cons hA
  obtain ⟨v1, vs1, d1, ds1, p1, q1, rfl, rfl, rfl, h1, r1⟩ := trodAll_cons r0
  obtain ⟨rfl, rfl, rfl⟩ := trodAll_nil r1
  obtain rfl : args = #[v0, v1] := by cases args; simp_all
  obtain ⟨rfl, rfl⟩ := trodVars_none hV
  obtain ⟨a0, rfl, rfl, rfl, w0⟩ := open_string Tryd.underlying9 (hval 0 9 v0 rfl rfl) h0
  obtain ⟨a1, rfl, rfl, rfl, w1⟩ := open_string Tryd.underlying9 (hval 1 9 v1 rfl rfl) h1
  clear hA0 hval0
  simp only [List.append_nil] at hW'
  obtain ⟨m, hm⟩ := Tryd.laysM143.s1_3 W hsh
  refine (walk a0 a1 w0 w1 W m hm).mono fun e W' ⟨he, hg⟩ => ?_
  subst he
  exact ⟨_, rfl, post_texts hW' (fun _ _ _ => (trodAll_cons_mk (shut_bool Tryd.underlying4 _) trodAll_mk0)) (fun sp => (trodAll_cons_mk (shut_string Tryd.underlying9 w0) (trodAll_cons_mk (shut_string Tryd.underlying9 w1) trodAll_mk0))) (fun _ => rfl)
    hg (ok_one (by kernel_rfl) rfl (okWide_bool_mk Tryd.underlying4 _))⟩

theorem over : Rows.helperJoinsRow.holds Tryd.pinned (OpenSpec.ofChange Rows.helperJoinsSpec) :=
  OpenClaim.holds_of_wide 6 Tryd.f6 rfl rfl rfl rfl rfl rfl rfl ⟨rfl, rfl, rfl, rfl, rfl⟩ rfl rfl rfl rfl rfl (by kernel_rfl) Tryd.func6 (by kernel_rfl)
    (of_decide_eq_true (by kernel_rfl)) (by unfold Func.isWrapper; first | (rw [if_pos (by decide +kernel)]; kernel_rfl) | (rw [if_neg (by decide +kernel)]; exact ⟨rfl, rfl⟩))
    (fun os started H enc _ => lifted os started H enc)

/-- ████ THE STATEMENT: THE TIED CARD ████ -/
theorem proved : Rows.HelperJoinsCardSaid :=
  Claim7.holds_tied_plain_at .later [] [.data, .pinned] true (true, "976c7b5ca0a6e0b7ae283dd8bbc166f4b8d42aca6b552a348e227aea158a716c") false over (fun _ h => by cases h) (by kernel_rfl) (fun _ h => by cases h) helperJoins_row_tie rfl ⟨rfl, rfl⟩ (by kernel_rfl) rfl
    (fun f fn hf hfn => by
      obtain rfl : f = 6 := Option.some.inj ((show Tryd.prog.funcNamed "coldplug/coldpluglaw14.HelperJoins" = some 6 by kernel_rfl).symm.trans hf) |>.symm
      obtain rfl : fn = Tryd.f6 := (Option.some.inj (Tryd.func6.symm.trans hfn)).symm
      exact ⟨by kernel_rfl, fun j t ht => by
        rw [Tryd.params6] at ht
        have hm : t ∈ [9] := by
          have := Array.mem_of_getElem? ht
          simp at this ⊢
          exact this
        have hall : ([9].all fun u => !Tryd.prog.wantsStandIn u) = true := by kernel_rfl
        exact (show Tryd.prog.wantsStandIn t = false by simpa using List.all_eq_true.1 hall t hm)⟩)
    (by kernel_rfl)
#print axioms proved
end Go.Proofs.YtgjnohkcnfdmkaaDoor.helperJoins
