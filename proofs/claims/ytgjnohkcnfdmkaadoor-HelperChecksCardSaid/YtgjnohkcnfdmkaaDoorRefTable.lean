/-
  THE WALK of the reference's Check of a table.
-/
import Derived.Test.YtgjnohkcnfdmkaaDoorHelpCheck
namespace Go.Proofs.YtgjnohkcnfdmkaaDoor
open Go.RowKit

set_option maxHeartbeats 1000000 in
theorem printable01_any (s : ByteArray) (w : World) (hs : s.size ≤ 9223372036854775807) :
    Calls Tryd.prog 49 #[.string s] w fun e w' => e = .returned (.bool ((bs s).all G.pr)) ∧ w = w' := by
  go_enter Tryd.func49, Tryd.ntmps49
  go_wp2_with fail
  go_loop [3] (fun i => ∃ k : Nat, k ≤ s.size ∧ i = .int .i64 k ∧ Hid (((bs s).take k).all G.pr = true)) (fun i => s.size - (intOf i).toNat)
  case atStart => exact ⟨0, by omega, rfl, by simp [Hid]⟩
  case round =>
    obtain ⟨k, hk, rfl, ha⟩ := hrel
    by_cases hlt : k < s.size
    · have n1 := fun h => pr_no (s := s) (k := k) hlt h
      have n1' := Lib.hid n1; clear n1
      have n2 := fun h1 h2 => pr_step (s := s) (k := k) hlt h1 h2 ha.out
      have n2' := Lib.hid n2; clear n2
      by_cases h1 : ((s[k]'hlt).toNat : Int) < 32
      · have hfin := Lib.hid (n1'.out (.inl h1)); clear n1' n2'
        go_wp2_with fail
        go_ret
        exact ⟨by rw [hfin.out]; rfl, rfl⟩
      · by_cases h2 : (126 : Int) < ((s[k]'hlt).toNat : Int)
        · have hfin := Lib.hid (n1'.out (.inr h2)); clear n1' n2'
          go_wp2_with fail
          go_ret
          exact ⟨by rw [hfin.out]; rfl, rfl⟩
        · have hfin := Lib.hid (n2'.out h1 h2); clear n1' n2'
          go_wp2_with fail
          go_round
          case rel => exact ⟨k + 1, by omega, by go_num, hfin⟩
          case measure => simp [intOf]; omega
    · have hall : (bs s).all G.pr = true := by
        have := ha.out
        rwa [List.take_of_length_le (by rw [length_bs]; omega)] at this
      have hall' := Lib.hid hall; clear hall
      go_wp2_with fail
      go_ret
      exact ⟨by rw [hall'.out]; rfl, rfl⟩

theorem rtext_any63 (s : ByteArray) (w : World) (hs : s.size ≤ 9223372036854775807) :
    Calls Tryd.prog 39 #[.string s] w fun e w' => e = .returned (.bool (textB s)) ∧ w = w' := by
  have hP := fun W => printable01_any s W hs
  unfold textB
  generalize (bs s).all G.pr = b at *
  have hP' := Lib.hid hP; clear hP
  cases b with
  | false =>
    go_enter Tryd.func39, Tryd.ntmps39
    go_wp2_with fail
    refine (hP'.out _).mono ?_
    rintro e v1 ⟨rfl, rfl⟩
    go_wp2_with fail
    go_ret
    exact ⟨rfl, rfl⟩
  | true =>
    by_cases h : s.size ≤ 256
    · have i0 : (s.size : Int) ≤ 256 := by omega
      rw [decide_eq_true h]
      go_enter Tryd.func39, Tryd.ntmps39
      go_wp2_with fail
      refine (hP'.out _).mono ?_
      rintro e v1 ⟨rfl, rfl⟩
      go_wp2_with fail
      go_ret
      exact ⟨rfl, rfl⟩
    · have i0 : ¬ (s.size : Int) ≤ 256 := by omega
      rw [decide_eq_false h]
      go_enter Tryd.func39, Tryd.ntmps39
      go_wp2_with fail
      refine (hP'.out _).mono ?_
      rintro e v1 ⟨rfl, rfl⟩
      go_wp2_with fail
      go_ret
      exact ⟨by show Ending.returned (Value.bool (decide ((s.size : Int) ≤ 256))) = _; rw [decide_eq_false (by omega)]; rfl, rfl⟩

theorem badH_cases (h : Hp) : badH h = (decide (errS (bs h.cmd) ≠ 0) || !textB h.out || decide (h.ticks < 0) || decide (1000 < h.ticks)) := by
  unfold badH goodH
  have e1 : decide (h.ticks < 0) = !decide (0 ≤ h.ticks) := by by_cases a : 0 ≤ h.ticks <;> simp [a] <;> omega
  have e2 : decide (1000 < h.ticks) = !decide (h.ticks ≤ 1000) := by by_cases a : h.ticks ≤ 1000 <;> simp [a] <;> omega
  rw [e1, e2]
  simp [Bool.not_and]

theorem tableS_bad {l : List Hp} {limit : Int} {h : Hp} (hm : h ∈ l) (hb : badH h = true) : tableS l limit = 140 := by
  unfold tableS
  rw [if_pos (.inr (.inr (.inr (List.any_eq_true.2 ⟨h, hm, hb⟩))))]

set_option maxRecDepth 100000 in
set_option maxHeartbeats 2000000 in
theorem rtable_any (l : List Hp) (v : Value) (limit : Int) (w : World) (hl : HelpersAt w v l) (h1 : ∀ h ∈ l, h.cmd.size ≤ 9223372036854775807 ∧ h.out.size ≤ 9223372036854775807) :
    Calls Tryd.prog 22 #[v, .int .i64 limit] w fun e w' => e = .returned (.int .i64 (tableS l limit)) ∧ Below w.heap.size w w' := by
  by_cases a1 : limit < 1
  · obtain ⟨p, c, rfl⟩ := hl.shape
    have ht : tableS l limit = 140 := by unfold tableS; rw [if_pos (.inl a1)]
    rw [ht]
    clear ht hl
    go_enter Tryd.func22, Tryd.ntmps22
    go_wp2_with fail
    go_ret
    exact ⟨rfl, Below.refl _ _⟩
  · by_cases a2 : 1000 < limit
    · obtain ⟨p, c, rfl⟩ := hl.shape
      have ht : tableS l limit = 140 := by unfold tableS; rw [if_pos (.inr (.inl a2))]
      rw [ht]
      clear ht hl
      go_enter Tryd.func22, Tryd.ntmps22
      go_wp2_with fail
      go_ret
      exact ⟨rfl, Below.refl _ _⟩
    · by_cases a3 : 64 < l.length
      · obtain ⟨p, c, rfl⟩ := hl.shape
        have ht : tableS l limit = 140 := by unfold tableS; rw [if_pos (.inr (.inr (.inl a3)))]
        rw [ht]
        have i3 : (64 : Int) < (l.length : Int) := by omega
        clear ht hl
        go_enter Tryd.func22, Tryd.ntmps22
        go_wp2_with fail
        go_ret
        exact ⟨rfl, Below.refl _ _⟩
      · have hgood : (∀ h ∈ l, badH h = false) → tableS l limit = 0 := fun hall => by
          have h0 : l.any badH = false := by
            rw [List.any_eq_false]
            intro x hx; rw [hall x hx]; simp
          unfold tableS
          rw [h0, if_neg (by simp; omega)]
        have hbad := fun (h : Hp) (hm : h ∈ l) (hb : badH h = true) => tableS_bad (limit := limit) hm hb
        have hT0 := fun (h : Hp) W (hm : h ∈ l) => rtext_any63 h.out W (h1 h hm).2
        generalize tableS l limit = R at *
        have hgood' := Lib.hid hgood; clear hgood
        have hbad0 := Lib.hid hbad; clear hbad
        have hT0' := Lib.hid hT0; clear hT0 h1
        obtain ⟨hlen, hl2⟩ := hl
        rcases hl2 with ⟨rfl, rfl⟩ | ⟨g, o, cap, rfl, hg, hcells⟩
        · have hR := hgood'.out (fun h hh => by cases hh)
          subst hR
          clear hgood' hbad0 hT0'
          go_enter Tryd.func22, Tryd.ntmps22
          go_wp2_with fail
          go_loopw [5] (fun s5 wr => s5 = .int .i64 0 ∧ Below w.heap.size w wr) (fun _ _ => 0)
          case atStart => exact ⟨rfl, Below.refl _ _⟩
          case round =>
            obtain ⟨rfl, hb⟩ := hrel
            have hb' := Lib.hid hb; clear hb
            go_wp2_with fail
            go_ret
            exact ⟨rfl, hb'.out⟩
        · generalize hn : l.length = n at *
          have hn' := Lib.hid hn; clear hn
          have i3 : ¬ (64 : Int) < (n : Int) := by omega
          have hcells' := Lib.hid hcells; clear hcells
          go_enter Tryd.func22, Tryd.ntmps22
          go_wp2_with fail
          go_loopw [5] (fun s5 wr => ∃ k : Nat, s5 = .int .i64 k ∧ k ≤ n ∧ Below w.heap.size w wr ∧ Hid (∀ j x, j < k → l[j]? = some x → badH x = false)) (fun s5 _ => n - (intOf s5).toNat)
          case atStart => exact ⟨0, rfl, by omega, Below.refl _ _, fun j x hj => by omega⟩
          case round =>
            obtain ⟨k, rfl, hk, hb, hno⟩ := hrel
            by_cases hkn : k < n
            · obtain ⟨h, hh⟩ : ∃ h, l[k]? = some h := ⟨_, List.getElem?_eq_getElem (by have := hn'.out; omega)⟩
              have hmem : h ∈ l := List.mem_of_getElem? hh
              have e : ∀ i, wr.cell? ⟨g, i, none⟩ = w.cell? ⟨g, i, none⟩ := fun i => World.cell?_of_block (hb.block g hg)
              obtain ⟨c0, c1, c2, c3⟩ := hcells'.out k h hh
              rw [← e] at c0 c1 c3
              clear c2
              have c1' := Lib.hid c1; clear c1
              have c3' := Lib.hid c3; clear c3
              have hC' := Lib.hid (rcheck63_any h.cmd wr)
              have hT' := Lib.hid (fun W => hT0'.out h W hmem)
              have hB0 := Lib.hid (hbad0.out h hmem)
              have hbc := badH_cases h
              have hno2 : Hid (badH h = false → ∀ j x, j < k + 1 → l[j]? = some x → badH x = false) := fun hf j x hj hx => by
                rcases Nat.lt_or_ge j k with hjk | hjk
                · exact hno.out j x hjk hx
                · obtain rfl : j = k := by omega
                  rw [hh] at hx
                  cases hx
                  exact hf
              have hb' := Lib.hid hb; clear hb hmem hh e hno
              obtain ⟨cm, ou, fa, ti⟩ := h
              simp only at c0 c1' c3' hC' hT' hbc
              generalize errS (bs cm) = er at *
              generalize textB ou = tb at *
              have hbc' := Lib.hid hbc; clear hbc
              by_cases her : er = 0
              · subst her
                cases tb with
                | false =>
                  have hbad' := Lib.hid (hB0.out (by rw [hbc'.out]; simp))
                  go_wp2_with fail
                  refine hC'.out.mono ?_
                  rintro e v1 ⟨rfl, hb1⟩
                  have e1 : ∀ i, v1.cell? ⟨g, i, none⟩ = wr.cell? ⟨g, i, none⟩ := fun i => World.cell?_of_block (hb1.block g (Nat.lt_of_lt_of_le hg hb'.out.size))
                  have d1 := (e1 _).trans c1'.out
                  have d3 := (e1 _).trans c3'.out
                  have k1 := Lib.hid (hb'.out.trans (hb1.mono hb'.out.size)); clear hb1 e1
                  go_wp2_with fail
                  refine (hT'.out _).mono ?_
                  rintro e v2 ⟨rfl, rfl⟩
                  go_wp2_with fail
                  go_ret
                  exact ⟨by rw [hbad'.out]; rfl, k1.out⟩
                | true =>
                  by_cases ht0 : ti < 0
                  · have hbad' := Lib.hid (hB0.out (by rw [hbc'.out, decide_eq_true ht0]; simp))
                    go_wp2_with fail
                    refine hC'.out.mono ?_
                    rintro e v1 ⟨rfl, hb1⟩
                    have e1 : ∀ i, v1.cell? ⟨g, i, none⟩ = wr.cell? ⟨g, i, none⟩ := fun i => World.cell?_of_block (hb1.block g (Nat.lt_of_lt_of_le hg hb'.out.size))
                    have d1 := (e1 _).trans c1'.out
                    have d3 := (e1 _).trans c3'.out
                    have k1 := Lib.hid (hb'.out.trans (hb1.mono hb'.out.size)); clear hb1 e1
                    go_wp2_with fail
                    refine (hT'.out _).mono ?_
                    rintro e v2 ⟨rfl, rfl⟩
                    go_wp2_with fail
                    go_ret
                    exact ⟨by rw [hbad'.out]; rfl, k1.out⟩
                  · by_cases ht1 : 1000 < ti
                    · have hbad' := Lib.hid (hB0.out (by rw [hbc'.out, decide_eq_true ht1]; simp))
                      go_wp2_with fail
                      refine hC'.out.mono ?_
                      rintro e v1 ⟨rfl, hb1⟩
                      have e1 : ∀ i, v1.cell? ⟨g, i, none⟩ = wr.cell? ⟨g, i, none⟩ := fun i => World.cell?_of_block (hb1.block g (Nat.lt_of_lt_of_le hg hb'.out.size))
                      have d1 := (e1 _).trans c1'.out
                      have d3 := (e1 _).trans c3'.out
                      have k1 := Lib.hid (hb'.out.trans (hb1.mono hb'.out.size)); clear hb1 e1
                      go_wp2_with fail
                      refine (hT'.out _).mono ?_
                      rintro e v2 ⟨rfl, rfl⟩
                      go_wp2_with fail
                      go_ret
                      exact ⟨by rw [hbad'.out]; rfl, k1.out⟩
                    · have hno' := Lib.hid (hno2.out (by rw [hbc'.out, decide_eq_false ht0, decide_eq_false ht1]; simp))
                      go_wp2_with fail
                      refine hC'.out.mono ?_
                      rintro e v1 ⟨rfl, hb1⟩
                      have e1 : ∀ i, v1.cell? ⟨g, i, none⟩ = wr.cell? ⟨g, i, none⟩ := fun i => World.cell?_of_block (hb1.block g (Nat.lt_of_lt_of_le hg hb'.out.size))
                      have d1 := (e1 _).trans c1'.out
                      have d3 := (e1 _).trans c3'.out
                      have k1 := Lib.hid (hb'.out.trans (hb1.mono hb'.out.size)); clear hb1 e1
                      go_wp2_with fail
                      refine (hT'.out _).mono ?_
                      rintro e v2 ⟨rfl, rfl⟩
                      go_wp2_with fail
                      go_roundw
                      case rel => exact ⟨k + 1, by go_num, by omega, k1.out, hno'⟩
                      case measure => simp [intOf]; omega
              · have hbad' := Lib.hid (hB0.out (by rw [hbc'.out, decide_eq_true her]; simp))
                go_wp2_with fail
                refine hC'.out.mono ?_
                rintro e v1 ⟨rfl, hb1⟩
                have e1 : ∀ i, v1.cell? ⟨g, i, none⟩ = wr.cell? ⟨g, i, none⟩ := fun i => World.cell?_of_block (hb1.block g (Nat.lt_of_lt_of_le hg hb'.out.size))
                have d1 := (e1 _).trans c1'.out
                have d3 := (e1 _).trans c3'.out
                have k1 := Lib.hid (hb'.out.trans (hb1.mono hb'.out.size)); clear hb1 e1
                go_wp2_with fail
                go_ret
                exact ⟨by rw [hbad'.out]; rfl, k1.out⟩
            · obtain rfl : k = n := by omega
              have hR := hgood'.out (fun h hh => by
                obtain ⟨j, hj, he⟩ := List.getElem_of_mem hh
                exact hno.out j h (by have := hn'.out; omega) (he ▸ List.getElem?_eq_getElem hj))
              subst hR
              have hb' := Lib.hid hb; clear hb hno
              go_wp2_with fail
              go_ret
              exact ⟨rfl, hb'.out⟩

end Go.Proofs.YtgjnohkcnfdmkaaDoor
