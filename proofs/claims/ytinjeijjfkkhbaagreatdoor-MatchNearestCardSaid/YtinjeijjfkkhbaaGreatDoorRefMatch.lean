/-
  THE WALK of coldplugref02.Match.
-/
import Derived.Test.YtinjeijjfkkhbaaGreatDoorRefCheck
import Derived.Test.YtinjeijjfkkhbaaGreatDoorRefOne
namespace Go.Proofs.YtinjeijjfkkhbaaGreatDoor
open Go.RowKit

theorem AltsR.parts {w : World} {B : Nat} {v : Value} {l : List (List G.El)} (h : AltsR w B v l) :
    ∃ p cap, v = .slice p l.length cap ∧ ∀ k a, l[k]? = some a → ∃ g u, p = some ⟨g, 0, none⟩ ∧ g < w.heap.size ∧ w.cell? ⟨g, k, none⟩ = some u ∧ RowR w B u a := by
  obtain ⟨vs, h1, h2⟩ := h
  by_cases hl : 0 < l.length
  · obtain ⟨g, cap, hv, h3, h4⟩ := World.ownsRow.form h1 hl
    subst hv
    refine ⟨_, cap, rfl, fun k a ha => ?_⟩
    obtain ⟨u, hu, hr⟩ := h2 k a ha
    have hk := (List.getElem?_eq_some_iff.1 ha).1
    exact ⟨g, u, rfl, h4, by rw [World.ownsRow.cellAt h1 k (by omega)]; exact hu, hr⟩
  · have h0 : l = [] := List.eq_nil_of_length_eq_zero (by omega)
    subst h0
    rcases h1 with ⟨_, ⟨rfl, _⟩ | ⟨g, cap, cur, rfl, _⟩⟩
    · exact ⟨_, _, rfl, fun k x hx => by cases hx⟩
    · exact ⟨_, _, rfl, fun k x hx => by cases hx⟩

set_option maxHeartbeats 400000 in
theorem rmatch_none (p s : ByteArray) (w : World) (hsz : p.size ≤ 9223372036854775807) (h : G.alts (bs p) = none) : Calls Tryz.prog 71 #[.string p, .string s] w fun e w' => e = .returned (.bool false) ∧ Below w.heap.size w w' := by
  obtain ⟨er, her⟩ : ∃ z, errS (bs p) = z := ⟨_, rfl⟩
  have h0 : er ≠ 0 := by
    rcases errS_none h with e | e
    · rw [← her, e]; decide
    · rw [← her, e]; decide
  have hb1 : (er != 0) = true := by simpa using h0
  have hC := rcheck_any p w hsz
  rw [her] at hC
  have hC' := Lib.hid hC; clear hC h her
  go_enter Tryz.func71, Tryz.ntmps71
  go_wp2_with fail
  refine hC'.out.mono ?_
  rintro e w' ⟨rfl, hb⟩
  go_wp2_with fail
  go_ret
  exact ⟨rfl, hb⟩

set_option maxRecDepth 100000 in
set_option maxHeartbeats 1000000 in
theorem rmatch_some (p s : ByteArray) (w : World) (l : List (List G.El)) (hsz : p.size ≤ 9223372036854775807) (hs : s.size ≤ 9223372036854775807) (h : G.alts (bs p) = some l) :
    Calls Tryz.prog 71 #[.string p, .string s] w fun e w' => e = .returned (.bool ((bs s).all G.pr && l.any fun a => G.mt a (bs s))) ∧ Below w.heap.size w w' := by
  have hC := rcheck_any p w hsz
  rw [errS_some h] at hC
  have hP := fun W => rparse_good p W h
  have hPr := fun W => printable_any s W (by omega)
  have hC' := Lib.hid hC; clear hC h
  have hP' := Lib.hid hP; clear hP
  have hall : ∀ b, (bs s).all G.pr = b → (b = true → ∀ x, x ∈ bs s → G.pr x = true) := fun b hb h => by
    rw [h] at hb
    exact List.all_eq_true.1 hb
  generalize (bs s).all G.pr = b at *
  have hPr' := Lib.hid hPr; clear hPr
  have hall' := Lib.hid (hall b rfl); clear hall
  go_enter Tryz.func71, Tryz.ntmps71
  go_wp2_with fail
  refine hC'.out.mono ?_
  clear hC'
  rintro e w1 ⟨rfl, hb1⟩
  have hb1' := Lib.hid hb1; clear hb1
  go_wp2_with fail
  refine (hPr'.out _).mono ?_
  rintro e w2 ⟨rfl, rfl⟩
  cases b with
  | false =>
    go_wp2_with fail
    go_ret
    exact ⟨rfl, hb1'.out⟩
  | true =>
    have hpr := hall'.out rfl
    have hpr' := Lib.hid hpr; clear hpr hall'
    go_wp2_with fail
    refine (hP'.out _).mono ?_
    clear hP'
    rintro e w2 ⟨v, rfl, hb2, hal, hl1, hl2⟩
    have hb3 : Below w.heap.size w w2 := hb1'.out.trans (hb2.mono hb1'.out.size)
    have hz := hb3.size
    obtain ⟨pp, cap, rfl, hpf⟩ := hal.parts
    have hb3' := Lib.hid hb3; clear hb3 hb2 hb1' hal
    have hpf' := Lib.hid hpf; clear hpf
    have hl2' := Lib.hid hl2; clear hl2
    go_wp2_with fail
    go_loopw [7] (fun s7 wr => ∃ k : Nat, k ≤ l.length ∧ s7 = .int .i64 k ∧ Hid ((l.take k).any (fun a => G.mt a (bs s)) = false) ∧ Below w2.heap.size w2 wr) (fun s7 _ => l.length - (intOf s7).toNat)
    case atStart => exact ⟨0, by omega, rfl, by simp [Hid], Below.refl _ _⟩
    case round =>
      obtain ⟨k, hk, rfl, hno, hbr⟩ := hrel
      by_cases hkl : k < l.length
      · obtain ⟨a, hla⟩ : ∃ a, l[k]? = some a := ⟨_, List.getElem?_eq_getElem hkl⟩
        obtain ⟨g, u, rfl, hg, hc0, hrow⟩ := hpf'.out k a hla
        have hc1 := (hbr.cell (p := ⟨g, k, none⟩) hg).trans hc0
        have ha2 := hl2'.out a (List.mem_of_getElem? hla)
        have hO := one_any s (hrow.below hbr) ha2 hs hpr'.out
        have hla' := Lib.hid hla; clear hla hrow hc0
        have hbr' := Lib.hid hbr; clear hbr
        obtain ⟨b, hbe⟩ : ∃ b, G.mt a (bs s) = b := ⟨_, rfl⟩
        rw [hbe] at hO
        have hO' := Lib.hid hO; clear hO
        have hbe' := Lib.hid hbe; clear hbe
        go_wp2_with fail
        refine hO'.out.mono ?_
        clear hO'
        rintro e w4 ⟨rfl, hb4⟩
        have hb5 : Below w2.heap.size w2 w4 := hbr'.out.trans (hb4.mono hbr'.out.size)
        have hb5' := Lib.hid hb5; clear hb5 hb4 hbr'
        cases b with
        | false =>
          go_wp2_with fail
          go_roundw
          case rel => exact ⟨k + 1, by omega, by go_num, any_no hla'.out hno.out hbe'.out, hb5'.out⟩
          case measure => simp [intOf]; omega
        | true =>
          go_wp2_with fail
          go_ret
          refine ⟨?_, hb3'.out.trans (hb5'.out.mono hz)⟩
          rw [any_yes hla'.out hbe'.out]
          rfl
      · obtain rfl : k = l.length := by omega
        have hfin : l.any (fun a => G.mt a (bs s)) = false := by
          have := hno.out
          rwa [List.take_of_length_le (Nat.le_refl _)] at this
        have hb5 : Below w.heap.size w wr := hb3'.out.trans (hbr.mono hz)
        have hb5' := Lib.hid hb5; clear hb5 hbr
        have hfin' := Lib.hid hfin; clear hfin hno
        go_wp2_with fail
        go_ret
        refine ⟨?_, hb5'.out⟩
        rw [hfin'.out]
        rfl

/-- coldplugref02.Match answers as the pattern's plain reading does. -/
theorem rmatch_any (p s : ByteArray) (w : World) (hsz : p.size ≤ 9223372036854775807) (hs : s.size ≤ 9223372036854775807) :
    Calls Tryz.prog 71 #[.string p, .string s] w fun e w' => e = .returned (.bool (G.matchS (bs p) (bs s))) ∧ Below w.heap.size w w' := by
  unfold G.matchS
  cases h : G.alts (bs p) with
  | none => exact rmatch_none p s w hsz h
  | some l => exact rmatch_some p s w l hsz hs h

end Go.Proofs.YtinjeijjfkkhbaaGreatDoor
