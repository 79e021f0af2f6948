/-
  THE WALK of coldplugref02.Literal.
-/
import Derived.Test.YtgjnohkcnfdmkaaRefBegin
import Derived.Test.YtgjnohkcnfdmkaaLiteral
namespace Go.Proofs.Ytgjnohkcnfdmkaa
open Go.RowKit

set_option maxHeartbeats 400000 in
theorem rliteral_bad (p : ByteArray) (w : World) (hp : p.size ≤ 1000000000000) (h : G.alts (bs p) = none) : Calls Try.prog 38 #[.string p] w (LitPost p w) := by
  have hn := G.litS_none h
  obtain ⟨er, her⟩ : ∃ z, errS (bs p) = z := ⟨_, rfl⟩
  have h0 : er ≠ 0 := by
    rcases errS_none h with e | e
    · rw [← her, e]; decide
    · rw [← her, e]; decide
  have hb1 : (er != 0) = true := by simpa using h0
  have hC := rcheck_any p w hp
  rw [her] at hC
  have hC' := Lib.hid hC; clear hC h her
  have hn' := Lib.hid hn; clear hn
  go_enter Try.func38, Try.ntmps38
  go_wp2_with fail
  refine hC'.out.mono ?_
  rintro e w' ⟨rfl, hb⟩
  go_wp2_with fail
  go_ret2
  exact ⟨⟨#[]⟩, false, rfl, by rw [hn'.out]; rfl, fun _ => rfl, hb⟩

set_option maxRecDepth 100000 in
set_option maxHeartbeats 1000000 in
theorem rliteral_two (p : ByteArray) (w : World) (hp : p.size ≤ 1000000000000) {a b : List G.El} {r : List (List G.El)} (h : G.alts (bs p) = some (a :: b :: r)) : Calls Try.prog 38 #[.string p] w (LitPost p w) := by
  have hn := G.litS_two h
  have hlit := G.alts_litEx h
  have hC := rcheck_any p w hp
  rw [errS_some h] at hC
  have hP := fun W => rparse_good p W h
  have hC' := Lib.hid hC; clear hC h
  have hP' := Lib.hid hP; clear hP
  have hn' := Lib.hid hn; clear hn
  have hlit' := Lib.hid hlit; clear hlit
  go_enter Try.func38, Try.ntmps38
  go_wp2_with fail
  refine hC'.out.mono ?_
  clear hC'
  rintro e w1 ⟨rfl, hb1⟩
  have hb1' := Lib.hid hb1; clear hb1
  go_wp2_with fail
  refine (hP'.out _).mono ?_
  clear hP'
  rintro e w2 ⟨v, rfl, hb2, ha2, _, he2⟩
  obtain ⟨pp, cap, rfl, hpf⟩ := ha2.parts
  obtain ⟨g, u0, rfl, hg, hc0, hr0⟩ := hpf 0 a rfl
  have hB := rbegin_any hr0 (he2 a (by simp)) (hlit'.out a (by simp))
  have hb3 : Below w.heap.size w w2 := hb1'.out.trans (hb2.mono hb1'.out.size)
  have hl : (((a :: b :: r).length : Int) != 1) = true := by simp only [List.length_cons, bne_iff_ne]; omega
  have hl0 : (0 : Int) < ((a :: b :: r).length : Int) := by simp only [List.length_cons]; omega
  generalize (a :: b :: r).length = n at *
  have hb3' := Lib.hid hb3; clear hb3 hb2 hb1' ha2 hpf hr0 he2
  have hB' := Lib.hid hB; clear hB
  go_wp2_with fail
  refine hB'.out.mono ?_
  clear hB'
  rintro e w3 ⟨st, rfl, hst, hb4⟩
  have hb5 : Below w.heap.size w w3 := hb3'.out.trans (hb4.mono hb3'.out.size)
  have hb5' := Lib.hid hb5; clear hb5 hb4 hb3' hst
  go_wp2_with fail
  go_ret2
  exact ⟨⟨#[]⟩, false, rfl, by rw [hn'.out]; rfl, fun _ => rfl, hb5'.out⟩

set_option maxRecDepth 100000 in
set_option maxHeartbeats 1000000 in
theorem rliteral_one (p : ByteArray) (w : World) (hp : p.size ≤ 1000000000000) {a : List G.El} (h : G.alts (bs p) = some [a]) : Calls Try.prog 38 #[.string p] w (LitPost p w) := by
  have hn := G.litS_one h
  have hlit := G.alts_litEx h
  have hC := rcheck_any p w hp
  rw [errS_some h] at hC
  have hP := fun W => rparse_good p W h
  have hC' := Lib.hid hC; clear hC h
  have hP' := Lib.hid hP; clear hP
  have hn' := Lib.hid hn; clear hn
  have hlit' := Lib.hid hlit; clear hlit
  go_enter Try.func38, Try.ntmps38
  go_wp2_with fail
  refine hC'.out.mono ?_
  clear hC'
  rintro e w1 ⟨rfl, hb1⟩
  have hb1' := Lib.hid hb1; clear hb1
  go_wp2_with fail
  refine (hP'.out _).mono ?_
  clear hP'
  rintro e w2 ⟨v, rfl, hb2, ha2, _, he2⟩
  obtain ⟨pp, cap, rfl, hpf⟩ := ha2.parts
  obtain ⟨g, u0, rfl, hg, hc0, hr0⟩ := hpf 0 a rfl
  have hB := rbegin_any hr0 (he2 a (by simp)) (hlit'.out a (by simp))
  have hla := he2 a (by simp)
  obtain ⟨pa, ca, rfl, _⟩ := hr0.parts
  simp only [List.length_cons, List.length_nil, Nat.zero_add]
  have hb3 : Below w.heap.size w w2 := hb1'.out.trans (hb2.mono hb1'.out.size)
  have hb3' := Lib.hid hb3; clear hb3 hb2 hb1' ha2 hpf hr0 he2
  have hB' := Lib.hid hB; clear hB
  go_wp2_with fail
  refine hB'.out.mono ?_
  clear hB'
  rintro e w3 ⟨st, rfl, hst, hb4⟩
  have hc2 := (hb4.cell (p := ⟨g, 0, none⟩) hg).trans hc0
  have hbw : Below w.heap.size w w3 := hb3'.out.trans (hb4.mono hb3'.out.size)
  have hbw' := Lib.hid hbw; clear hbw hb4 hb3' hc0
  have hsl : st.size = (G.litPre a).length := by rw [← length_bs, hst]
  by_cases hl : (G.litPre a).length = a.length
  · have hfin : (if true then some (bs st) else none) = G.litS (bs p) := by rw [hn'.out, if_pos hl, hst]; rfl
    have e1 : ((st.size : Int) != (a.length : Int)) = false := by rw [hsl, hl]; simp
    have e3 : (st.size : Int) = (a.length : Int) := by rw [hsl, hl]
    have hfin' := Lib.hid hfin; clear hfin hst hl hsl
    go_wp2_with fail
    go_ret2
    exact ⟨st, true, rfl, hfin'.out, fun h => (by cases h), hbw'.out⟩
  · have hfin : (none : Option (List Nat)) = G.litS (bs p) := by rw [hn'.out, if_neg hl]
    have e3 : ¬ (st.size : Int) = (a.length : Int) := by omega
    have e1 : ((st.size : Int) != (a.length : Int)) = true := by simpa using e3
    have hfin' := Lib.hid hfin; clear hfin hst hl hsl
    go_wp2_with fail
    go_ret2
    exact ⟨⟨#[]⟩, false, rfl, hfin'.out, fun _ => rfl, hbw'.out⟩

theorem rliteral_any (p : ByteArray) (w : World) (hp : p.size ≤ 1000000000000) : Calls Try.prog 38 #[.string p] w (LitPost p w) := by
  cases h : G.alts (bs p) with
  | none => exact rliteral_bad p w hp h
  | some l =>
    match l, h with
    | [], h => exact absurd rfl (alts_ne h)
    | [a], h => exact rliteral_one p w hp h
    | a :: b :: r, h => exact rliteral_two p w hp h

end Go.Proofs.Ytgjnohkcnfdmkaa
