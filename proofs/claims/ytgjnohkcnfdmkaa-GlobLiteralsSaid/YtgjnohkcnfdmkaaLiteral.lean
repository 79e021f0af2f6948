/-
  THE WALK of glob.Literal.
-/
import Derived.Test.YtgjnohkcnfdmkaaPrefix
import Derived.Test.YtgjnohkcnfdmkaaGlobLit
namespace Go.Proofs.Ytgjnohkcnfdmkaa
open Go.RowKit Go.Maps

/-- What glob.Literal answers. -/
def LitPost (p : ByteArray) (w : World) (e : Ending) (w' : World) : Prop :=
  ∃ (s : ByteArray) (ok : Bool), e = .returned (.tuple #[.string s, .bool ok]) ∧ (if ok then some (bs s) else none) = G.litS (bs p) ∧ (ok = false → bs s = []) ∧ Below w.heap.size w w'

set_option maxHeartbeats 400000 in
theorem literal_bad (p : ByteArray) (w : World) (hp : p.size ≤ 1000000000000) (h : G.alts (bs p) = none) : Calls Try.prog 37 #[.string p] w (LitPost p w) := by
  have hn := G.litS_none h
  obtain ⟨er, her⟩ : ∃ z, errS (bs p) = z := ⟨_, rfl⟩
  have h0 : er ≠ 0 := by
    rcases errS_none h with e | e
    · rw [← her, e]; decide
    · rw [← her, e]; decide
  have hb1 : (er != 0) = true := by simpa using h0
  have hP := parse_bad p w hp her
  have hP' := Lib.hid hP; clear hP h her
  have hn' := Lib.hid hn; clear hn
  go_enter Try.func37, Try.ntmps37
  go_wp2_with (go_at_call 55; refine hP'.out.mono ?_; rintro e w' ⟨v, rfl, hb⟩)
  go_ret2
  exact ⟨⟨#[]⟩, false, rfl, by rw [hn'.out]; rfl, fun _ => rfl, hb⟩

set_option maxHeartbeats 400000 in
theorem literal_two (p : ByteArray) (w : World) (hp : p.size ≤ 1000000000000) {a b : List G.El} {r : List (List G.El)} (h : G.alts (bs p) = some (a :: b :: r)) : Calls Try.prog 37 #[.string p] w (LitPost p w) := by
  have hn := G.litS_two h
  have hP := parse_good p w hp h
  have hP' := Lib.hid hP; clear hP h
  have hn' := Lib.hid hn; clear hn
  go_enter Try.func37, Try.ntmps37
  go_wp2_with fail
  refine hP'.out.mono ?_
  rintro e w1 ⟨v, rfl, hb1, ha1, _, _⟩
  obtain ⟨pp, cap, rfl⟩ := ha1.len
  have hb1' := Lib.hid hb1; clear hb1 ha1
  have hl : (((a :: b :: r).length : Int) != 1) = true := by simp only [List.length_cons, bne_iff_ne]; omega
  generalize (a :: b :: r).length = n at *
  go_wp2_with fail
  go_ret2
  exact ⟨⟨#[]⟩, false, rfl, by rw [hn'.out]; rfl, fun _ => rfl, hb1'.out⟩

set_option maxRecDepth 100000 in
set_option maxHeartbeats 1000000 in
theorem literal_one (p : ByteArray) (w : World) (hp : p.size ≤ 1000000000000) {a : List G.El} (h : G.alts (bs p) = some [a]) : Calls Try.prog 37 #[.string p] w (LitPost p w) := by
  have hn := G.litS_one h
  have hlit := G.alts_lit h
  have hP := parse_good p w hp h
  have hP' := Lib.hid hP; clear hP h
  have hn' := Lib.hid hn; clear hn
  have hlit' := Lib.hid hlit; clear hlit
  go_enter Try.func37, Try.ntmps37
  go_wp2_with fail
  refine hP'.out.mono ?_
  clear hP'
  rintro e w1 ⟨v, rfl, hb1, ha1, _, he1⟩
  obtain ⟨pp, cap, rfl, hcap, hpf⟩ := ha1.parts
  obtain ⟨g, u0, rfl, hg, hc0, hr0⟩ := hpf 0 a rfl
  have hB := begin_any hr0 (he1 a (by simp)) (hlit'.out a (by simp))
  have hla := he1 a (by simp)
  obtain ⟨pa, ca, rfl⟩ := hr0.len
  simp only [List.length_cons, List.length_nil, Nat.zero_add]
  have hb1' := Lib.hid hb1; clear hb1 ha1 hpf hr0 he1 hcap
  have hB' := Lib.hid hB; clear hB
  go_wp2_with fail
  refine hB'.out.mono ?_
  clear hB'
  rintro e w2 ⟨st, rfl, hst, hb2⟩
  have hc2 := (hb2.cell (p := ⟨g, 0, none⟩) hg).trans hc0
  have hbw : Below w.heap.size w w2 := hb1'.out.trans (hb2.mono hb1'.out.size)
  have hbw' := Lib.hid hbw; clear hbw hb2 hb1' hc0
  have hsl : st.size = (G.litPre a).length := by rw [← length_bs, hst]
  by_cases hl : (G.litPre a).length = a.length
  · have hfin : (if true then some (bs st) else none) = G.litS (bs p) := by rw [hn'.out, if_pos hl, hst]; rfl
    have e1 : ((st.size : Int) == (a.length : Int)) = true := by rw [hsl, hl]; simp
    have e2 : decide ((st.size : Int) = (a.length : Int)) = true := by rw [hsl, hl]; simp
    have e3 : (st.size : Int) = (a.length : Int) := by rw [hsl, hl]
    have hfin' := Lib.hid hfin; clear hfin hst hl hsl
    go_wp2_with fail
    go_ret2
    exact ⟨st, true, rfl, hfin'.out, fun h => (by cases h), hbw'.out⟩
  · have hfin : (none : Option (List Nat)) = G.litS (bs p) := by rw [hn'.out, if_neg hl]
    have e3 : ¬ (st.size : Int) = (a.length : Int) := by omega
    have e1 : ((st.size : Int) == (a.length : Int)) = false := by rw [beq_eq_false_iff_ne]; exact e3
    have hfin' := Lib.hid hfin; clear hfin hst hl hsl
    go_wp2_with fail
    go_ret2
    exact ⟨⟨#[]⟩, false, rfl, hfin'.out, fun _ => rfl, hbw'.out⟩

theorem literal_any (p : ByteArray) (w : World) (hp : p.size ≤ 1000000000000) : Calls Try.prog 37 #[.string p] w (LitPost p w) := by
  cases h : G.alts (bs p) with
  | none => exact literal_bad p w hp h
  | some l =>
    match l, h with
    | [], h => exact absurd rfl (alts_ne h)
    | [a], h => exact literal_one p w hp h
    | a :: b :: r, h => exact literal_two p w hp h

end Go.Proofs.Ytgjnohkcnfdmkaa
