/-
  THE WALK of the reference's Call: what any command answers.
-/
import Derived.Test.YtgjnohkcnfdmkaaDoorHelpLaw
import Derived.Test.YtgjnohkcnfdmkaaDoorRefMatch
namespace Go.Proofs.YtgjnohkcnfdmkaaDoor
open Go.RowKit

theorem callS_many (l : List Hp) (limit calls : Int) (c : ByteArray) (h16 : 16 ≤ calls) : callS l limit calls c = (⟨#[]⟩, 0, 144) := by unfold callS; rw [if_pos h16]
theorem callS_no (l : List Hp) (limit calls : Int) (c : ByteArray) (h16 : ¬ 16 ≤ calls) (hf : l.find? (hits c) = none) : callS l limit calls c = (⟨#[]⟩, 0, 143) := by unfold callS; rw [if_neg h16, hf]
theorem callS_slow (l : List Hp) (limit calls : Int) (c : ByteArray) (h16 : ¬ 16 ≤ calls) (h : Hp) (hf : l.find? (hits c) = some h) (hl : limit < h.ticks) : callS l limit calls c = (⟨#[]⟩, limit, 142) := by unfold callS; rw [if_neg h16, hf]; simp only; rw [if_pos hl]
theorem callS_fails (l : List Hp) (limit calls : Int) (c : ByteArray) (h16 : ¬ 16 ≤ calls) (h : Hp) (hf : l.find? (hits c) = some h) (hl : ¬ limit < h.ticks) (hfa : h.fails = true) : callS l limit calls c = (⟨#[]⟩, h.ticks, 141) := by unfold callS; rw [if_neg h16, hf]; simp only; rw [if_neg hl, hfa, if_pos rfl]
theorem callS_good (l : List Hp) (limit calls : Int) (c : ByteArray) (h16 : ¬ 16 ≤ calls) (h : Hp) (hf : l.find? (hits c) = some h) (hl : ¬ limit < h.ticks) (hfa : h.fails = false) : callS l limit calls c = (h.out, h.ticks, 0) := by unfold callS; rw [if_neg h16, hf]; simp only; rw [if_neg hl, hfa, if_neg (by decide)]

set_option maxRecDepth 100000 in
set_option maxHeartbeats 2000000 in
theorem rcall_any (l : List Hp) (v : Value) (limit calls : Int) (c : ByteArray) (w : World) (hl : HelpersAt w v l) (h1 : ∀ h ∈ l, h.cmd.size ≤ 1000000000000) (h2 : c.size ≤ 1000000000000) :
    Calls Tryd.prog 14 #[v, .int .i64 limit, .int .i64 calls, .string c] w fun e w' => e = .returned (.tuple #[.string (callS l limit calls c).1, .int .i64 (callS l limit calls c).2.1, .int .i64 (callS l limit calls c).2.2]) ∧ Below w.heap.size w w' := by
  by_cases h16 : 16 ≤ calls
  · rw [callS_many l limit calls c h16]
    go_enter Tryd.func14, Tryd.ntmps14
    go_wp2_with fail
    refine bodyPost_ret (results_tmp3 rfl _ _ _) rfl ?_
    exact ⟨rfl, Below.refl _ _⟩
  · obtain ⟨hlen, hl2⟩ := hl
    rcases hl2 with ⟨rfl, rfl⟩ | ⟨g, o, cap, rfl, hg, hcells⟩
    · rw [callS_no [] limit calls c h16 rfl]
      go_enter Tryd.func14, Tryd.ntmps14
      go_wp2_with fail
      go_loopw [11] (fun s11 wr => s11 = .int .i64 0 ∧ Below w.heap.size w wr) (fun _ _ => 0)
      case atStart => exact ⟨rfl, Below.refl _ _⟩
      case round =>
        obtain ⟨rfl, hb⟩ := hrel
        have hb' := Lib.hid hb; clear hb
        go_wp2_with fail
        refine bodyPost_ret (results_tmp3 rfl _ _ _) rfl ?_
        exact ⟨rfl, hb'.out⟩
    · have hP := fun (h : Hp) W (hh : h ∈ l) => rmatch_any h.cmd c W (h1 h hh) h2
      have hP' := Lib.hid hP; clear hP
      have hS0 := callS_no l limit calls c h16
      have hS1 := callS_slow l limit calls c h16
      have hS2 := callS_fails l limit calls c h16
      have hS3 := callS_good l limit calls c h16
      generalize callS l limit calls c = R at *
      have hS0' := Lib.hid hS0; clear hS0
      have hS1' := Lib.hid hS1; clear hS1
      have hS2' := Lib.hid hS2; clear hS2
      have hS3' := Lib.hid hS3; clear hS3
      generalize hn : l.length = n at *
      have hn' := Lib.hid hn; clear hn
      have hcells' := Lib.hid hcells; clear hcells
      go_enter Tryd.func14, Tryd.ntmps14
      go_wp2_with fail
      go_loopw [11] (fun s11 wr => ∃ k : Nat, s11 = .int .i64 k ∧ k ≤ n ∧ Below w.heap.size w wr ∧ Hid ((l.take k).find? (hits c) = none)) (fun s11 _ => n - (intOf s11).toNat)
      case atStart => exact ⟨0, rfl, by omega, Below.refl _ _, by simp [Hid]⟩
      case round =>
        obtain ⟨k, rfl, hk, hb, hno⟩ := hrel
        by_cases hkn : k < n
        · obtain ⟨h, hh⟩ : ∃ h, l[k]? = some h := ⟨_, List.getElem?_eq_getElem (by have := hn'.out; omega)⟩
          have e : ∀ i, wr.cell? ⟨g, i, none⟩ = w.cell? ⟨g, i, none⟩ := fun i => World.cell?_of_block (hb.block g hg)
          obtain ⟨c0, c1, c2, c3⟩ := hcells'.out k h hh
          rw [← e] at c0
          have c1' := Lib.hid c1; clear c1
          have c2' := Lib.hid c2; clear c2
          have c3' := Lib.hid c3; clear c3
          have hC := hP'.out h wr (List.mem_of_getElem? hh)
          obtain ⟨b, hbb⟩ : ∃ b, G.matchS (bs h.cmd) (bs c) = b := ⟨_, rfl⟩
          have hbb' : Hid (hits c h = b) := hbb
          rw [hbb] at hC
          have hC' := Lib.hid hC; clear hC hbb e
          have hb' := Lib.hid hb; clear hb
          have hh' := Lib.hid hh; clear hh
          obtain ⟨cm, ou, fa, ti⟩ := h
          simp only at c0 c1' c2' c3' hC'
          cases b with
          | false =>
            have hfin := Lib.hid (find_take_no hh'.out hno.out hbb'.out)
            go_wp2_with fail
            refine hC'.out.mono ?_
            rintro e v1 ⟨rfl, hb1⟩
            have k1' := Lib.hid (hb'.out.trans (hb1.mono hb'.out.size)); clear hb1
            go_wp2_with fail
            go_roundw
            case rel => exact ⟨k + 1, by go_num, by omega, k1'.out, hfin⟩
            case measure => simp [intOf]; omega
          | true =>
            have hfin := find_of_take (find_take_yes hh'.out hno.out hbb'.out)
            have hfin' := Lib.hid hfin; clear hfin
            have i0 : (k : Int) < (n : Int) := by omega
            have i1 : (0 : Int) ≤ (k : Int) := by omega
            by_cases hlim : limit < ti
            · have hR := hS1'.out _ hfin'.out hlim
              subst hR
              go_wp2_with fail
              refine hC'.out.mono ?_
              rintro e v1 ⟨rfl, hb1⟩
              have k1' := Lib.hid (hb'.out.trans (hb1.mono hb'.out.size)); clear hb1
              have e1 : ∀ i, v1.cell? ⟨g, i, none⟩ = w.cell? ⟨g, i, none⟩ := fun i => World.cell?_of_block (k1'.out.block g hg)
              have d1 := (e1 _).trans c1'.out
              have d2 := (e1 _).trans c2'.out
              have d3 := (e1 _).trans c3'.out
              clear e1
              go_wp2_with fail
              refine bodyPost_ret (results_tmp3 rfl _ _ _) rfl ?_
              exact ⟨rfl, k1'.out⟩
            · cases fa with
              | true =>
                have hR := hS2'.out _ hfin'.out (Int.not_lt.1 hlim) rfl
                subst hR
                go_wp2_with fail
                refine hC'.out.mono ?_
                rintro e v1 ⟨rfl, hb1⟩
                have k1' := Lib.hid (hb'.out.trans (hb1.mono hb'.out.size)); clear hb1
                have e1 : ∀ i, v1.cell? ⟨g, i, none⟩ = w.cell? ⟨g, i, none⟩ := fun i => World.cell?_of_block (k1'.out.block g hg)
                have d1 := (e1 _).trans c1'.out
                have d2 := (e1 _).trans c2'.out
                have d3 := (e1 _).trans c3'.out
                clear e1
                go_wp2_with fail
                go_quiet (fail)
                go_wp2_with fail
                refine bodyPost_ret (results_tmp3 rfl _ _ _) rfl ?_
                exact ⟨rfl, below_drawN k1'.out _⟩
              | false =>
                have hR := hS3'.out _ hfin'.out (Int.not_lt.1 hlim) rfl
                subst hR
                go_wp2_with fail
                refine hC'.out.mono ?_
                rintro e v1 ⟨rfl, hb1⟩
                have k1' := Lib.hid (hb'.out.trans (hb1.mono hb'.out.size)); clear hb1
                have e1 : ∀ i, v1.cell? ⟨g, i, none⟩ = w.cell? ⟨g, i, none⟩ := fun i => World.cell?_of_block (k1'.out.block g hg)
                have d1 := (e1 _).trans c1'.out
                have d2 := (e1 _).trans c2'.out
                have d3 := (e1 _).trans c3'.out
                clear e1
                go_wp2_with fail
                go_quiet (fail)
                go_wp2_with fail
                refine bodyPost_ret (results_tmp3 rfl _ _ _) rfl ?_
                exact ⟨rfl, below_drawN k1'.out _⟩
        · obtain rfl : k = n := by omega
          have hR := hS0'.out (by
            have := hno.out
            rwa [List.take_of_length_le (by have := hn'.out; omega)] at this)
          subst hR
          have hb' := Lib.hid hb; clear hb
          go_wp2_with fail
          refine bodyPost_ret (results_tmp3 rfl _ _ _) rfl ?_
          exact ⟨rfl, hb'.out⟩

end Go.Proofs.YtgjnohkcnfdmkaaDoor
