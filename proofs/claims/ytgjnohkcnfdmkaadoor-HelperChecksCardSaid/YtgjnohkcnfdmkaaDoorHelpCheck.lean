/-
  THE WALKS of helper.Check and what it calls: which tables are valid with which limits.
-/
import Derived.Test.YtgjnohkcnfdmkaaDoorHelpLaw
import Derived.Test.YtgjnohkcnfdmkaaDoorRefCheck
namespace Go.Proofs.YtgjnohkcnfdmkaaDoor
open Go.RowKit

set_option maxHeartbeats 400000 in
theorem text63_any (s : ByteArray) (w : World) (hs : s.size ≤ 9223372036854775807) :
    Calls Tryd.prog 43 #[.string s] w fun e w' => e = .returned (.bool (textB s)) ∧ w = w' := by
  unfold textB
  go_enter Tryd.func43, Tryd.ntmps43
  go_wp2_with fail
  go_loop [6] (fun i => ∃ k : Nat, k ≤ s.size ∧ i = .int .i64 k ∧ Hid (((bs s).take k).all G.pr = true)) (fun i => s.size - (intOf i).toNat)
  case atStart => exact ⟨0, by omega, rfl, by simp [Hid]⟩
  case round =>
    obtain ⟨k, hk, rfl, ha⟩ := hrel
    by_cases hlt : k < s.size
    · have n1 := fun h => pr_no (s := s) (k := k) hlt h
      have n1' := Lib.hid n1; clear n1
      have n2 := fun h1 h2 => pr_step (s := s) (k := k) hlt h1 h2 ha.out
      have n2' := Lib.hid n2; clear n2
      go_wp2
      · have h : ((s[k]'hlt).toNat : Int) < 32 ∨ (126 : Int) < ((s[k]'hlt).toNat : Int) := by assumption
        go_ret
        exact ⟨by rw [n1'.out h]; rfl, rfl⟩
      · have h : (32 : Int) ≤ ((s[k]'hlt).toNat : Int) ∧ ((s[k]'hlt).toNat : Int) ≤ 126 := by assumption
        refine ⟨⟨k + 1, by omega, by go_num, n2'.out (by omega) (by omega)⟩, ?_⟩
        simp [intOf]
        omega
      · have h : ((s[k]'hlt).toNat : Int) < 32 := by assumption
        go_ret
        exact ⟨by rw [n1'.out (.inl h)]; rfl, rfl⟩
    · have hall : (bs s).all G.pr = true := by
        have := ha.out
        rwa [List.take_of_length_le (by rw [length_bs]; omega)] at this
      have hall' := Lib.hid hall; clear hall
      go_wp2
      go_ret
      refine ⟨?_, rfl⟩
      rw [hall'.out, Bool.true_and]
      simp
      omega


theorem parse_long (p : ByteArray) (w : World) (h1 : 256 < p.size) : Calls Tryd.prog 28 #[.string p] w fun e w' => (∃ v, e = .returned (.tuple #[v, .int .i64 21])) ∧ Below w.heap.size w w' := by
  have hi : (256 : Int) < (p.size : Int) := by omega
  go_enter Tryd.func28, Tryd.ntmps28
  go_wp2_with fail
  go_ret2
  exact ⟨⟨.slice none 0 0, rfl⟩, Below.refl _ _⟩
theorem check63_any (p : ByteArray) (w : World) : Calls Tryd.prog 48 #[.string p] w fun e w' => e = .returned (.int .i64 (errS (bs p))) ∧ Below w.heap.size w w' := by
  by_cases h1 : 256 < p.size
  · have he : errS (bs p) = 21 := by unfold errS; rw [if_pos (by rw [length_bs]; exact h1)]
    rw [he]
    have hP' := Lib.hid (parse_long p w h1)
    clear he
    go_enter Tryd.func48, Tryd.ntmps48
    go_wp2_with (go_at_call 28; refine hP'.out.mono ?_; rintro e w' ⟨⟨v, rfl⟩, hb⟩)
    go_ret
    exact ⟨rfl, hb⟩
  · exact check_any p w (by omega)
theorem rcheck63_any (p : ByteArray) (w : World) : Calls Tryd.prog 38 #[.string p] w fun e w' => e = .returned (.int .i64 (errS (bs p))) ∧ Below w.heap.size w w' := by
  by_cases h1 : 256 < p.size
  · have he : errS (bs p) = 21 := by unfold errS; rw [if_pos (by rw [length_bs]; exact h1)]
    have hi : (256 : Int) < (p.size : Int) := by omega
    rw [he]
    clear he
    go_enter Tryd.func38, Tryd.ntmps38
    go_wp2_with fail
    go_ret
    exact ⟨rfl, Below.refl _ _⟩
  · exact rcheck_any p w (by omega)

/-- Whether a helper may stand in a table. -/
def goodH (h : Hp) : Bool := decide (errS (bs h.cmd) = 0) && textB h.out && decide (0 ≤ h.ticks) && decide (h.ticks ≤ 1000)
def badH (h : Hp) : Bool := !goodH h

set_option maxHeartbeats 1000000 in
theorem valid_any (h : Hp) (w : World) (h2 : h.out.size ≤ 9223372036854775807) :
    Calls Tryd.prog 37 #[.agg (hpV h)] w fun e w' => e = .returned (.bool (goodH h)) ∧ Below w.heap.size w w' := by
  unfold hpV goodH
  obtain ⟨cm, ou, fa, ti⟩ := h
  simp only at h2 ⊢
  have hC := fun W => check63_any cm W
  have hT := fun W => text63_any ou W h2
  have hC' := Lib.hid hC; clear hC
  have hT' := Lib.hid hT; clear hT
  generalize errS (bs cm) = er at *
  generalize textB ou = tb at *
  have hB : Blk (w.alloc (.cells #[.string cm, .string ou, .bool fa, .int .i64 ti] 40)) w.heap.size 40 #[.string cm, .string ou, .bool fa, .int .i64 ti] := Blk.new _ _ _
  have hB' := Lib.hid hB; clear hB
  have k0 : Hid (Below w.heap.size w (w.alloc (.cells #[.string cm, .string ou, .bool fa, .int .i64 ti] 40))) := (Below.refl _ _).alloc (Nat.le_refl _) _
  by_cases her : er = 0
  · subst her
    cases tb with
    | false =>
      go_enter Tryd.func37, Tryd.ntmps37
      go_wp2_with fail
      refine (hC'.out _).mono ?_
      rintro e v1 ⟨rfl, hb1⟩
      have k1 := Lib.hid (k0.out.trans (hb1.mono k0.out.size))
      have B1 := hB'.out.below hb1 hB'.out.lt
      have c1 := B1.cell 1
      simp only [List.getElem?_toArray, List.getElem?_cons_zero, List.getElem?_cons_succ] at c1
      clear hb1 B1
      go_wp2_with fail
      refine (hT'.out _).mono ?_
      rintro e v2 ⟨rfl, rfl⟩
      go_wp2_with fail
      go_ret
      exact ⟨rfl, k1.out⟩
    | true =>
      by_cases ht0 : 0 ≤ ti
      · by_cases ht1 : ti ≤ 1000
        · rw [decide_eq_true ht0, decide_eq_true ht1]
          go_enter Tryd.func37, Tryd.ntmps37
          go_wp2_with fail
          refine (hC'.out _).mono ?_
          rintro e v1 ⟨rfl, hb1⟩
          have k1 := Lib.hid (k0.out.trans (hb1.mono k0.out.size))
          have B1 := hB'.out.below hb1 hB'.out.lt
          have c1 := B1.cell 1
          have c3 := B1.cell 3
          simp only [List.getElem?_toArray, List.getElem?_cons_zero, List.getElem?_cons_succ] at c1 c3
          clear hb1 B1
          go_wp2_with fail
          refine (hT'.out _).mono ?_
          rintro e v2 ⟨rfl, rfl⟩
          go_wp2_with fail
          go_ret
          exact ⟨rfl, k1.out⟩
        · rw [decide_eq_true ht0, decide_eq_false ht1]
          go_enter Tryd.func37, Tryd.ntmps37
          go_wp2_with fail
          refine (hC'.out _).mono ?_
          rintro e v1 ⟨rfl, hb1⟩
          have k1 := Lib.hid (k0.out.trans (hb1.mono k0.out.size))
          have B1 := hB'.out.below hb1 hB'.out.lt
          have c1 := B1.cell 1
          have c3 := B1.cell 3
          simp only [List.getElem?_toArray, List.getElem?_cons_zero, List.getElem?_cons_succ] at c1 c3
          clear hb1 B1
          go_wp2_with fail
          refine (hT'.out _).mono ?_
          rintro e v2 ⟨rfl, rfl⟩
          go_wp2_with fail
          go_ret
          exact ⟨by show Ending.returned (Value.bool (decide (ti ≤ 1000))) = _; rw [decide_eq_false (by omega)]; rfl, k1.out⟩
      · rw [decide_eq_false ht0]
        go_enter Tryd.func37, Tryd.ntmps37
        go_wp2_with fail
        refine (hC'.out _).mono ?_
        rintro e v1 ⟨rfl, hb1⟩
        have k1 := Lib.hid (k0.out.trans (hb1.mono k0.out.size))
        have B1 := hB'.out.below hb1 hB'.out.lt
        have c1 := B1.cell 1
        have c3 := B1.cell 3
        simp only [List.getElem?_toArray, List.getElem?_cons_zero, List.getElem?_cons_succ] at c1 c3
        clear hb1 B1
        go_wp2_with fail
        refine (hT'.out _).mono ?_
        rintro e v2 ⟨rfl, rfl⟩
        go_wp2_with fail
        go_ret
        exact ⟨rfl, k1.out⟩
  · rw [decide_eq_false her]
    go_enter Tryd.func37, Tryd.ntmps37
    go_wp2_with fail
    refine (hC'.out _).mono ?_
    rintro e v1 ⟨rfl, hb1⟩
    have k1 := Lib.hid (k0.out.trans (hb1.mono k0.out.size))
    clear hb1
    go_wp2_with fail
    go_ret
    exact ⟨rfl, k1.out⟩

theorem predb_any (h : Hp) (w : World) (_ : h.cmd.size ≤ 9223372036854775807) (h2 : h.out.size ≤ 9223372036854775807) :
    Calls Tryd.prog 36 #[.agg (hpV h)] w fun e w' => e = .returned (.bool (badH h)) ∧ Below w.heap.size w w' := by
  have hV := fun W => valid_any h W h2
  unfold badH
  generalize goodH h = gd at *
  unfold hpV at hV ⊢
  obtain ⟨cm, ou, fa, ti⟩ := h
  simp only at hV ⊢
  have hV' := Lib.hid hV; clear hV
  go_enter Tryd.func36, Tryd.ntmps36
  go_wp2_with fail
  refine (hV'.out _).mono ?_
  rintro e v1 ⟨rfl, hb1⟩
  have k1 : Below w.heap.size w v1 := ((Below.refl _ _).alloc (Nat.le_refl _) _).trans (hb1.mono (by simp))
  have k1' := Lib.hid k1; clear k1 hb1
  go_wp2_with fail
  go_ret
  exact ⟨rfl, k1'.out⟩

def idxB (l : List Hp) : Int := match l.findIdx? badH with
  | some k => k
  | none => -1
theorem idxb_none {l : List Hp} (h : ∀ x ∈ l, badH x = false) : idxB l = -1 := by
  unfold idxB
  rw [List.findIdx?_eq_none_iff.2 h]
theorem idxb_some {l : List Hp} {k : Nat} {h : Hp} (hk : l[k]? = some h) (hb : ∀ j x, j < k → l[j]? = some x → badH x = false) (hh : badH h = true) : idxB l = k := by
  unfold idxB
  have hlt : k < l.length := (List.getElem?_eq_some_iff.1 hk).1
  have he : l[k] = h := (List.getElem?_eq_some_iff.1 hk).2
  have : l.findIdx? (badH) = some k := by
    rw [List.findIdx?_eq_some_iff_getElem]
    refine ⟨hlt, by rw [he]; exact hh, fun j hj => ?_⟩
    rw [hb j _ hj (List.getElem?_eq_getElem (by omega))]
    simp
  rw [this]

set_option maxHeartbeats 1000000 in
theorem indexb_any (l : List Hp) (v : Value) (w : World) (hl : HelpersAt w v l) (h1 : ∀ h ∈ l, h.cmd.size ≤ 9223372036854775807 ∧ h.out.size ≤ 9223372036854775807) :
    Calls Tryd.prog 25 #[v, .func (Fn.func 36) #[] #[]] w fun e w' => e = .returned (.int .i64 (idxB l)) ∧ Below w.heap.size w w' := by
  obtain ⟨hlen, hl2⟩ := hl
  rcases hl2 with ⟨rfl, rfl⟩ | ⟨g, o, cap, rfl, hg, hcells⟩
  · go_enter Tryd.func25, Tryd.ntmps25
    go_wp2_with fail
    go_loopw [8] (fun s8 wr => s8 = .int .i64 0 ∧ Below w.heap.size w wr) (fun _ _ => 0)
    case atStart => exact ⟨rfl, Below.refl _ _⟩
    case round =>
      obtain ⟨rfl, hb⟩ := hrel
      have hb' := Lib.hid hb; clear hb
      go_wp2_with fail
      go_ret
      exact ⟨rfl, hb'.out⟩
  · have hP := fun h W (hh : h ∈ l) => predb_any h W (h1 h hh).1 (h1 h hh).2
    have hP' := Lib.hid hP; clear hP
    generalize hn : l.length = n at *
    have hn' := Lib.hid hn; clear hn
    have hcells' := Lib.hid hcells; clear hcells
    go_enter Tryd.func25, Tryd.ntmps25
    go_wp2_with fail
    go_loopw [8] (fun s8 wr => ∃ k : Nat, s8 = .int .i64 k ∧ k ≤ n ∧ Below w.heap.size w wr ∧ Hid (∀ j x, j < k → l[j]? = some x → badH x = false)) (fun s8 _ => n - (intOf s8).toNat)
    case atStart => exact ⟨0, rfl, by omega, Below.refl _ _, fun j x hj => by omega⟩
    case round =>
      obtain ⟨k, rfl, hk, hb, hno⟩ := hrel
      by_cases hkn : k < n
      · obtain ⟨h, hh⟩ : ∃ h, l[k]? = some h := ⟨_, List.getElem?_eq_getElem (by rw [hn'.out]; exact hkn)⟩
        have hmem : h ∈ l := List.mem_of_getElem? hh
        have e : ∀ i, wr.cell? ⟨g, i, none⟩ = w.cell? ⟨g, i, none⟩ := fun i => World.cell?_of_block (hb.block g hg)
        obtain ⟨c0, c1, c2, c3⟩ := hcells'.out k h hh
        rw [← e] at c0 c1 c2 c3
        have hC := hP'.out h wr hmem
        unfold hpV at hC
        have hC' := Lib.hid hC; clear hC hmem e
        have hb' := Lib.hid hb; clear hb
        have hh' := Lib.hid hh; clear hh
        obtain ⟨b, hbb⟩ : ∃ b, badH h = b := ⟨_, rfl⟩
        rw [hbb] at hC'
        have hbb' := Lib.hid hbb; clear hbb
        obtain ⟨cm, ou, fa, ti⟩ := h
        simp only at c0 c1 c2 c3 hC'
        cases b with
        | true =>
          have hfin := idxb_some hh'.out hno hbb'.out
          have hfin' := Lib.hid hfin; clear hfin
          go_wp2_with fail
          refine hC'.out.mono ?_
          rintro e v1 ⟨rfl, hb1⟩
          have k1 : Below w.heap.size w v1 := hb'.out.trans (hb1.mono hb'.out.size)
          have k1' := Lib.hid k1; clear k1 hb1
          go_wp2_with fail
          go_ret
          exact ⟨by rw [hfin'.out]; rfl, k1'.out⟩
        | false =>
          have hfin : ∀ j x, j < k + 1 → l[j]? = some x → badH x = false := fun j x hj hx => by
            rcases Nat.lt_or_ge j k with h | h
            · exact hno j x h hx
            · obtain rfl : j = k := by omega
              rw [hh'.out] at hx
              cases hx
              exact hbb'.out
          have hfin' := Lib.hid hfin; clear hfin
          go_wp2_with fail
          refine hC'.out.mono ?_
          rintro e v1 ⟨rfl, hb1⟩
          have k1 : Below w.heap.size w v1 := hb'.out.trans (hb1.mono hb'.out.size)
          have k1' := Lib.hid k1; clear k1 hb1
          go_wp2_with fail
          go_roundw
          case rel => exact ⟨k + 1, by go_num, by omega, k1'.out, hfin'.out⟩
          case measure => simp [intOf]; omega
      · obtain rfl : k = n := by omega
        have hfin : idxB l = -1 := idxb_none fun x hx => by
          obtain ⟨j, hj, he⟩ := List.getElem_of_mem hx
          exact hno j x (by have := hn'.out; omega) (he ▸ List.getElem?_eq_getElem hj)
        have hfin' := Lib.hid hfin; clear hfin hno
        have hb' := Lib.hid hb; clear hb
        go_wp2_with fail
        go_ret
        exact ⟨by rw [hfin'.out]; rfl, hb'.out⟩


theorem idxb_ge (l : List Hp) : (0 ≤ idxB l) ↔ l.any badH = true := by
  unfold idxB
  cases h : l.findIdx? badH with
  | none =>
    have := List.findIdx?_eq_none_iff.1 h
    show (0 : Int) ≤ -1 ↔ _
    constructor
    · intro h; omega
    · intro h2
      obtain ⟨x, hx, hb⟩ := List.any_eq_true.1 h2
      rw [this x hx] at hb; cases hb
  | some k =>
    rw [List.findIdx?_eq_some_iff_getElem] at h
    obtain ⟨hk, hb, _⟩ := h
    show (0 : Int) ≤ (k : Int) ↔ _
    constructor
    · intro _; exact List.any_eq_true.2 ⟨_, List.getElem_mem hk, hb⟩
    · intro _; omega
theorem contb_any (l : List Hp) (v : Value) (w : World) (hl : HelpersAt w v l) (h1 : ∀ h ∈ l, h.cmd.size ≤ 9223372036854775807 ∧ h.out.size ≤ 9223372036854775807) :
    Calls Tryd.prog 35 #[v, .func (Fn.func 36) #[] #[]] w fun e w' => e = .returned (.bool (l.any badH)) ∧ Below w.heap.size w w' := by
  have hI := indexb_any l v w hl h1
  have hge := idxb_ge l
  generalize idxB l = ix at *
  have hI' := Lib.hid hI; clear hI hl h1
  cases hb : l.any badH with
  | true =>
    have i0 : (0 : Int) ≤ ix := hge.2 hb
    clear hge hb
    go_enter Tryd.func35, Tryd.ntmps35
    go_wp2_with fail
    refine hI'.out.mono ?_
    rintro e v1 ⟨rfl, hb1⟩
    have hb1' := Lib.hid hb1; clear hb1
    go_wp2_with fail
    go_ret
    exact ⟨rfl, hb1'.out⟩
  | false =>
    have i0 : ¬ (0 : Int) ≤ ix := fun h => by have := hge.1 h; rw [hb] at this; cases this
    clear hge hb
    go_enter Tryd.func35, Tryd.ntmps35
    go_wp2_with fail
    refine hI'.out.mono ?_
    rintro e v1 ⟨rfl, hb1⟩
    have hb1' := Lib.hid hb1; clear hb1
    go_wp2_with fail
    go_ret
    exact ⟨by show Ending.returned (Value.bool (decide (0 ≤ ix))) = _; rw [decide_eq_false (by omega)], hb1'.out⟩

/-- Which tables are valid with which limits. -/
def tableS (l : List Hp) (limit : Int) : Int := if limit < 1 ∨ 1000 < limit ∨ 64 < l.length ∨ l.any badH = true then 140 else 0

theorem HelpersAt.shape {w : World} {v : Value} {l : List Hp} (h : HelpersAt w v l) : ∃ p c, v = .slice p l.length c := by
  rcases h.2 with ⟨rfl, rfl⟩ | ⟨g, o, cap, rfl, _⟩
  · exact ⟨none, 0, rfl⟩
  · exact ⟨_, _, rfl⟩

set_option maxHeartbeats 1000000 in
theorem hcheck_any (l : List Hp) (v : Value) (limit : Int) (w : World) (hl : HelpersAt w v l) (h1 : ∀ h ∈ l, h.cmd.size ≤ 9223372036854775807 ∧ h.out.size ≤ 9223372036854775807) :
    Calls Tryd.prog 21 #[v, .int .i64 limit] w fun e w' => e = .returned (.int .i64 (tableS l limit)) ∧ Below w.heap.size w w' := by
  have hC := contb_any l v w hl h1
  obtain ⟨p, c, rfl⟩ := hl.shape
  unfold tableS
  generalize l.any badH = bd at *
  have hC' := Lib.hid hC; clear hC hl h1
  generalize l.length = n at *
  by_cases a1 : limit < 1
  · rw [if_pos (.inl a1)]
    go_enter Tryd.func21, Tryd.ntmps21
    go_wp2_with fail
    go_ret
    exact ⟨rfl, Below.refl _ _⟩
  · by_cases a2 : 1000 < limit
    · rw [if_pos (.inr (.inl a2))]
      go_enter Tryd.func21, Tryd.ntmps21
      go_wp2_with fail
      go_ret
      exact ⟨rfl, Below.refl _ _⟩
    · by_cases a3 : 64 < n
      · rw [if_pos (.inr (.inr (.inl a3)))]
        have i3 : (64 : Int) < (n : Int) := by omega
        go_enter Tryd.func21, Tryd.ntmps21
        go_wp2_with fail
        go_ret
        exact ⟨rfl, Below.refl _ _⟩
      · have i3 : ¬ (64 : Int) < (n : Int) := by omega
        cases bd with
        | true =>
          rw [if_pos (.inr (.inr (.inr rfl)))]
          go_enter Tryd.func21, Tryd.ntmps21
          go_wp2_with fail
          refine hC'.out.mono ?_
          rintro e v1 ⟨rfl, hb1⟩
          have hb1' := Lib.hid hb1; clear hb1
          go_wp2_with fail
          go_ret
          exact ⟨rfl, hb1'.out⟩
        | false =>
          rw [if_neg (by simp; omega)]
          go_enter Tryd.func21, Tryd.ntmps21
          go_wp2_with fail
          refine hC'.out.mono ?_
          rintro e v1 ⟨rfl, hb1⟩
          have hb1' := Lib.hid hb1; clear hb1
          go_wp2_with fail
          go_ret
          exact ⟨rfl, hb1'.out⟩

end Go.Proofs.YtgjnohkcnfdmkaaDoor
