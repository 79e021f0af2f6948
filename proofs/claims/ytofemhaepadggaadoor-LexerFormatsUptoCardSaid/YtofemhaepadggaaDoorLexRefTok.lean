/-
  THE WALK of coldplugref08.token.
-/
import Derived.Test.YtofemhaepadggaaDoorLexTokens
import Derived.Test.YtofemhaepadggaaDoorLexRefLines
namespace Go.Proofs.YtofemhaepadggaaDoor
open Go.RowKit

theorem upper_any (c : UInt8) (w : World) : Calls Tryd.prog 66 #[.int .u8 c.toNat] w fun e w' => e = .returned (.bool (L.letter c.toNat)) ∧ w' = w := by
  unfold L.letter
  by_cases h1 : 65 ≤ c.toNat
  · have i1 : (65 : Int) ≤ (c.toNat : Int) := by omega
    by_cases h2 : c.toNat ≤ 90
    · have i2 : (c.toNat : Int) ≤ 90 := by omega
      rw [decide_eq_true h1, decide_eq_true h2]
      go_enter Tryd.func66, Tryd.ntmps66
      go_wp2_with fail
      go_ret
      exact ⟨rfl, rfl⟩
    · have i2 : ¬ (c.toNat : Int) ≤ 90 := by omega
      have i3 : decide ((c.toNat : Int) ≤ 90) = false := decide_eq_false i2
      rw [decide_eq_true h1, decide_eq_false h2]
      go_enter Tryd.func66, Tryd.ntmps66
      go_wp2_with fail
      go_ret
      exact ⟨by first | rfl | (show Ending.returned (Value.bool (decide ((c.toNat : Int) ≤ 90))) = _; rw [i3]; rfl), rfl⟩
  · have i1 : ¬ (65 : Int) ≤ (c.toNat : Int) := by omega
    rw [decide_eq_false h1]
    go_enter Tryd.func66, Tryd.ntmps66
    go_wp2_with fail
    go_ret
    exact ⟨rfl, rfl⟩

theorem named_any (c : UInt8) (w : World) : Calls Tryd.prog 67 #[.int .u8 c.toNat] w fun e w' => e = .returned (.bool (L.inName c.toNat)) ∧ w' = w := by
  unfold L.inName
  by_cases h1 : 32 < c.toNat
  · have i1 : (32 : Int) < (c.toNat : Int) := by omega
    by_cases h2 : c.toNat ≤ 126
    · have i2 : (c.toNat : Int) ≤ 126 := by omega
      by_cases h3 : c.toNat = 123
      · have i3 : (c.toNat : Int) = 123 := by omega
        rw [decide_eq_true h1, decide_eq_true h2, decide_eq_false (by omega : ¬ c.toNat ≠ 123)]
        go_enter Tryd.func67, Tryd.ntmps67
        go_wp2_with fail
        go_ret
        exact ⟨by simp [i3], rfl⟩
      · have i3 : ¬ (c.toNat : Int) = 123 := by omega
        by_cases h4 : c.toNat = 125
        · have i4 : (c.toNat : Int) = 125 := by omega
          rw [decide_eq_true h1, decide_eq_true h2, decide_eq_true h3, decide_eq_false (by omega : ¬ c.toNat ≠ 125)]
          go_enter Tryd.func67, Tryd.ntmps67
          go_wp2_with fail
          go_ret
          exact ⟨by simp [i4], rfl⟩
        · have i4 : ¬ (c.toNat : Int) = 125 := by omega
          by_cases h5 : c.toNat = 34
          · have i5 : (c.toNat : Int) = 34 := by omega
            rw [decide_eq_true h1, decide_eq_true h2, decide_eq_true h3, decide_eq_true h4, decide_eq_false (by omega : ¬ c.toNat ≠ 34)]
            go_enter Tryd.func67, Tryd.ntmps67
            go_wp2_with fail
            go_ret
            exact ⟨by simp [i5], rfl⟩
          · have i5 : ¬ (c.toNat : Int) = 34 := by omega
            rw [decide_eq_true h1, decide_eq_true h2, decide_eq_true h3, decide_eq_true h4, decide_eq_true h5]
            go_enter Tryd.func67, Tryd.ntmps67
            go_wp2_with fail
            go_ret
            exact ⟨by simp [i3, i4, i5], rfl⟩
    · have i2 : ¬ (c.toNat : Int) ≤ 126 := by omega
      rw [decide_eq_true h1, decide_eq_false h2]
      go_enter Tryd.func67, Tryd.ntmps67
      go_wp2_with fail
      go_ret
      exact ⟨rfl, rfl⟩
  · have i1 : ¬ (32 : Int) < (c.toNat : Int) := by omega
    rw [decide_eq_false h1]
    go_enter Tryd.func67, Tryd.ntmps67
    go_wp2_with fail
    go_ret
    exact ⟨rfl, rfl⟩

theorem rops_any (w : World) : Calls Tryd.prog 68 #[] w fun e w' => e = .returned (.slice (some ⟨w.heap.size, 0, none⟩) 6 6) ∧ w' = w.alloc (.cells (opsB.map Value.string).toArray 9) := by
  go_enter Tryd.func68, Tryd.ntmps68
  go_wp2_with fail
  go_ret
  exact ⟨rfl, rfl⟩

theorem hasp_one (s : ByteArray) (c : UInt8) (w : World) : Calls Tryd.prog 34 #[.string s, .string ⟨#[c]⟩] w fun e w' => e = .returned (.bool (decide ((bs s).head? = some c.toNat))) ∧ w' = w := by
  refine (Tryd.strings_HasPrefix s ⟨#[c]⟩ w).mono ?_
  rintro e w' ⟨rfl, rfl⟩
  refine ⟨?_, rfl⟩
  have h1 : Lib.hasPrefix s.data.toList [c] = decide ((bs s).head? = some c.toNat) := by
    rw [prefix_one, bs_data, List.head?_map]
    cases s.data.toList.head? with
    | none => rfl
    | some a =>
      simp only [Option.map_some, Option.some.injEq]
      rw [decide_eq_decide]
      exact ⟨fun h => by rw [h], fun h => UInt8.toNat_inj.1 h⟩
  show Ending.returned (Value.bool (Lib.hasPrefix s.data.toList [c])) = _
  rw [h1]

/-- What the reference's token hands back: on an error the token may be whatever it is. -/
def RTokPost (w : World) (r : L.Tok × List Nat × Int) (e : Ending) (w' : World) : Prop :=
  (∃ a b c d t : ByteArray, e = .returned (.tuple #[.agg (tokC a b c d), .string t, .int .i64 r.2.2]) ∧ (r.2.2 = 0 → bs a = r.1.k ∧ bs b = r.1.n ∧ bs c = r.1.o ∧ bs d = r.1.v ∧ bs t = r.2.1)) ∧ Below w.heap.size w w'

set_option maxRecDepth 100000 in
set_option maxHeartbeats 4000000 in
theorem rtoken_any (s : ByteArray) (w : World) (hs : s.size ≤ 1000000) : Calls Tryd.prog 48 #[.string s] w (RTokPost w (L.tokS (bs s))) := by
  obtain ⟨T, hT⟩ : ∃ T, L.tokS (bs s) = T := ⟨_, rfl⟩
  rw [hT]
  have hT0 := Lib.hid hT; clear hT
  have hT1 := hT0.out
  unfold L.tokS at hT1
  obtain ⟨n, hn⟩ : ∃ n, L.cnt L.letter (bs s) = n := ⟨_, rfl⟩
  have hcle := L.cnt_le L.letter (bs s)
  rw [length_bs] at hcle
  rw [hn] at hT1 hcle
  have hn' := Lib.hid hn; clear hn
  have hT2 := Lib.hid hT1; clear hT1 hT0
  have hU' := Lib.hid (fun (c : UInt8) (W : World) => upper_any c W)
  go_enter Tryd.func48, Tryd.ntmps48
  go_upto_block 0 with fail
  have hR0 : Hid (Blk ((w.alloc (.cells (tokC emp emp emp emp) 40)).alloc (.cells (tokC emp emp emp emp) 40)) w.heap.size 40 (tokC emp emp emp emp)) := (Blk.new _ _ _).alloc _
  have hX0 : Hid (Blk ((w.alloc (.cells (tokC emp emp emp emp) 40)).alloc (.cells (tokC emp emp emp emp) 40)) (w.heap.size + 1) 40 (tokC emp emp emp emp)) := Blk.new_ _ _ _ (by simp)
  have hb0 : Hid (Below w.heap.size w ((w.alloc (.cells (tokC emp emp emp emp) 40)).alloc (.cells (tokC emp emp emp emp) 40))) := ((Below.refl _ _).alloc (Nat.le_refl _) _).alloc (by simp) _
  unfold tokC at hR0 hX0 hb0
  generalize ((w.alloc (.cells #[.string emp, .string emp, .string emp, .string emp] 40)).alloc (.cells #[.string emp, .string emp, .string emp, .string emp] 40)) = w1 at *
  go_cut [6] (fun s6 wc => s6 = .int .i64 n ∧ wc = w1)
  case first =>
    go_wp2_with fail
    go_loopw [6] (fun s6 wr => ∃ k : Nat, s6 = .int .i64 k ∧ k ≤ s.size ∧ Hid (∀ j, j < k → ∃ c, (bs s)[j]? = some c ∧ L.letter c = true) ∧ Hid (wr = w1)) (fun s6 _ => s.size - (intOf s6).toNat)
    case atStart => exact ⟨0, rfl, by omega, fun j hj => by omega, (by first | exact rfl | exact trivial)⟩
    case round =>
      obtain ⟨k, rfl, hk, ha, hw⟩ := hrel
      obtain rfl : wr = w1 := hw.out
      clear hw
      by_cases hks : k < s.size
      · have hpk := get_bs s k hks
        have hC := hU'.out (s[k]'hks) wr
        cases hb0 : L.letter (s[k]'hks).toNat with
        | true =>
          have hfin : ∀ j, j < k + 1 → ∃ c, (bs s)[j]? = some c ∧ L.letter c = true := fun j hj => by
            rcases Nat.lt_or_ge j k with h | h
            · exact ha.out j h
            · obtain rfl : j = k := by omega
              exact ⟨_, hpk, hb0⟩
          rw [hb0] at hC
          have hC' := Lib.hid hC; clear hC
          have hfin' := Lib.hid hfin; clear hfin ha hpk hb0
          go_wp2_with fail
          refine hC'.out.mono ?_
          rintro e v1 ⟨rfl, rfl⟩
          go_wp2_with fail
          go_roundw
          case rel => exact ⟨k + 1, by go_num, by omega, hfin', (by first | exact rfl | exact trivial)⟩
          case measure => simp [intOf]; omega
        | false =>
          have hfin : L.cnt L.letter (bs s) = k := L.cnt_stop ha.out fun c hc => by
            rw [hpk] at hc
            cases hc
            exact hb0
          rw [hn'.out] at hfin
          subst hfin
          rw [hb0] at hC
          have hC' := Lib.hid hC; clear hC ha hpk hb0
          go_wp2_with fail
          refine hC'.out.mono ?_
          rintro e v1 ⟨rfl, rfl⟩
          go_wp2_with fail
          go_meet
          case rel => exact ⟨rfl, rfl⟩
      · obtain rfl : k = s.size := by omega
        have hfin : L.cnt L.letter (bs s) = s.size := L.cnt_stop ha.out fun c hc => by
          rw [List.getElem?_eq_none (by rw [length_bs]; exact Nat.le_refl _)] at hc
          cases hc
        rw [hn'.out] at hfin
        clear ha
        go_wp2_with fail
        go_meet
        case rel => exact ⟨by rw [hfin], rfl⟩
  case rest =>
    obtain ⟨rfl, rfl⟩ := hcut
    clear hU'
    have x0 := hX0.out.cell 0
    have x1 := hX0.out.cell 1
    have x2 := hX0.out.cell 2
    have x3 := hX0.out.cell 3
    simp only [List.getElem?_toArray, List.getElem?_cons_zero, List.getElem?_cons_succ] at x0 x1 x2 x3
    by_cases h0 : n = 0
    · subst h0
      have hT3 := hT2.out
      rw [if_pos rfl] at hT3
      have hT4 := Lib.hid hT3; clear hT3 hT2
      go_wp2_with (refine wpList_store_row rfl 40 (.tmp 2) (.tmp 25) rfl w.heap.size (tokC emp emp emp emp) rfl rfl 40 (tokC emp emp emp emp) hR0.out (sizeTok _ _ _ _) rfl (oneTok _ _ _ _) ?_)
      refine bodyPost_ret (results_row_tmp2 rfl _ _ w.heap.size 40 _ _ rfl (hR0.out.row _) Tryd.underlying40 rfl (sizeTok _ _ _ _)) rfl ?_
      rw [← hT4.out]
      exact ⟨⟨emp, emp, emp, emp, emp, rfl, fun h => absurd h (by decide)⟩, below_row hb0.out (Nat.le_refl _) _⟩
    · have hT3 := hT2.out
      rw [if_neg h0] at hT3
      have hT4 := Lib.hid hT3; clear hT3 hT2
      have i0 : ¬ (n : Int) = 0 := by omega
      have i0' : ((n : Int) == 0) = false := beq_eq_false_iff_ne.2 i0
      have in1 : (n : Int) ≤ (s.size : Int) := by omega
      have in0 : (0 : Int) ≤ (n : Int) := by omega
      clear x1 x2 x3 hn'
      go_upto_region 7 with fail
      have f0 := hX0.out.frozen 0
      have hX2 : Hid (Blk (wc.setCell ⟨w.heap.size + 1, 0, none⟩ (.string (s.extract 0 n))).drew (w.heap.size + 1) 40 (tokC (s.extract 0 n) emp emp emp)) := (hX0.out.store 0 _).drew
      have hR2 : Hid (Blk (wc.setCell ⟨w.heap.size + 1, 0, none⟩ (.string (s.extract 0 n))).drew w.heap.size 40 (tokC emp emp emp emp)) := (hR0.out.other (p := ⟨w.heap.size + 1, 0, none⟩) (by show w.heap.size ≠ w.heap.size + 1; omega) _).drew
      have hb2 : Hid (Below w.heap.size w (wc.setCell ⟨w.heap.size + 1, 0, none⟩ (.string (s.extract 0 n))).drew) := (hb0.out.setCell (p := ⟨w.heap.size + 1, 0, none⟩) (Nat.le_succ _) _).drew
      clear hX0 hR0 hb0
      go_region_with (fail)
      go_upto_region 8 with fail
      generalize (wc.setCell ⟨w.heap.size + 1, 0, none⟩ (.string (s.extract 0 n))).drew = w2 at *
      clear x0 f0
      have hs1 : (s.extract n s.size).size ≤ 1000000 := by rw [size_rest]; omega
      have hb1s := bs_extract s n
      have hka := bs_to s n
      generalize s.extract n s.size = s1 at *
      generalize s.extract 0 n = ka at *
      have hP0 := hasp_one s1 123 w2
      obtain ⟨b, hb⟩ : ∃ b, decide ((bs s1).head? = some (UInt8.toNat 123)) = b := ⟨_, rfl⟩
      rw [hb] at hP0
      have hb' := Lib.hid hb; clear hb
      have hP1 := Lib.hid hP0; clear hP0
      obtain ⟨m, hm⟩ : ∃ m, L.nameS ((bs s).drop n) = m := ⟨_, rfl⟩
      have hT5 := hT4.out
      dsimp only at hT5
      rw [hm] at hT5
      have hT6 := Lib.hid hT5; clear hT5 hT4
      rw [← hb1s] at hm
      have hm' := Lib.hid hm; clear hm hb1s
      have hka' := Lib.hid hka; clear hka i0 i0' in1 in0
      go_wp2_with fail
      refine hP1.out.mono ?_
      rintro e v2 ⟨rfl, rfl⟩
      clear hP1
      go_upto_if 34 with fail
      go_cut [0] (fun s0 wc => ∃ na s2 : ByteArray, s0 = .string s2 ∧ Hid (bs s2 = m.2.1 ∧ bs na = m.1 ∧ m.2.2 = 0) ∧ s2.size ≤ 1000000 ∧ Hid (Blk wc (w.heap.size + 1) 40 (tokC ka na emp emp)) ∧ Hid (Blk wc w.heap.size 40 (tokC emp emp emp emp)) ∧ Hid (Below w.heap.size w wc))
      case first =>
        cases b with
        | false =>
          have hh : (bs s1).head? ≠ some 123 := of_decide_eq_false hb'.out
          have hspec : m = ([], bs s1, 0) := by
            rw [← hm'.out]
            cases h : bs s1 with
            | nil => rfl
            | cons a r =>
              rw [h] at hh
              simp at hh
              unfold L.nameS
              split
              · rename_i e; simp at e; exact absurd e.1 hh
              · rfl
          clear hh
          go_wp2_with fail
          go_meet
          case rel => exact ⟨emp, s1, rfl, ⟨by rw [hspec], by rw [hspec]; rfl, by rw [hspec]⟩, hs1, hX2, hR2, hb2⟩
        | true =>
          have hh : (bs s1).head? = some 123 := of_decide_eq_true hb'.out
          obtain ⟨r, hr⟩ : ∃ r, bs s1 = 123 :: r := by
            cases h : bs s1 with
            | nil => rw [h] at hh; cases hh
            | cons a r => rw [h] at hh; simp at hh; subst hh; exact ⟨r, rfl⟩
          have hspec : (if L.cnt L.inName r = r.length then (([], [], 83) : L.Res) else if L.cnt L.inName r = 0 ∨ r[L.cnt L.inName r]? ≠ some 125 then ([], [], 82) else (r.take (L.cnt L.inName r), r.drop (L.cnt L.inName r + 1), 0)) = m := by
            rw [← hm'.out, hr]; rfl
          have hsz1 : s1.size = r.length + 1 := by rw [← length_bs, hr]; rfl
          obtain ⟨q, hq⟩ : ∃ q, L.cnt L.inName r = q := ⟨_, rfl⟩
          have hqle := L.cnt_le L.inName r
          rw [hq] at hspec hqle
          have hq' := Lib.hid hq; clear hq hh
          have hr' := Lib.hid hr; clear hr
          have hspec' := Lib.hid hspec; clear hspec
          have hN' := Lib.hid (fun (c : UInt8) (W : World) => named_any c W)
          go_upto_block 2 with fail
          go_cut [6] (fun s6 wc => s6 = .int .i64 ((q : Int) + 1) ∧ wc = v2)
          case first =>
            go_wp2_with fail
            go_loopw [6] (fun s6 wr => ∃ k : Nat, s6 = .int .i64 ((k : Int) + 1) ∧ k ≤ r.length ∧ Hid (∀ j, j < k → ∃ c, r[j]? = some c ∧ L.inName c = true) ∧ Hid (wr = v2)) (fun s6 _ => s1.size - (intOf s6).toNat)
            case atStart => exact ⟨0, rfl, by omega, fun j hj => by omega, (by first | exact rfl | exact trivial)⟩
            case round =>
              obtain ⟨k, rfl, hk, ha, hw⟩ := hrel
              obtain rfl : wr = v2 := hw.out
              clear hw
              by_cases hks : k + 1 < s1.size
              · have hpk : r[k]? = some (s1[k + 1]'hks).toNat := by
                  have := get_bs s1 (k + 1) hks
                  rw [hr'.out] at this
                  simpa using this
                have hC := hN'.out (s1[k + 1]'hks) wr
                have j1 : (k : Int) + 1 < (s1.size : Int) := by omega
                have j2 : (0 : Int) ≤ (k : Int) + 1 := by omega
                have j3 : ((k : Int) + 1).toNat = k + 1 := by omega
                cases hb0 : L.inName (s1[k + 1]'hks).toNat with
                | true =>
                  have hfin : ∀ j, j < k + 1 → ∃ c, r[j]? = some c ∧ L.inName c = true := fun j hj => by
                    rcases Nat.lt_or_ge j k with h | h
                    · exact ha.out j h
                    · obtain rfl : j = k := by omega
                      exact ⟨_, hpk, hb0⟩
                  rw [hb0] at hC
                  have hC' := Lib.hid hC; clear hC
                  have hfin' := Lib.hid hfin; clear hfin ha hpk hb0
                  go_wp2_with fail
                  refine hC'.out.mono ?_
                  rintro e v1 ⟨rfl, rfl⟩
                  go_wp2_with fail
                  go_roundw
                  case rel => exact ⟨k + 1, by go_num, by omega, hfin', (by first | exact rfl | exact trivial)⟩
                  case measure => simp [intOf]; omega
                | false =>
                  have hfin : L.cnt L.inName r = k := L.cnt_stop ha.out fun c hc => by
                    rw [hpk] at hc
                    cases hc
                    exact hb0
                  rw [hq'.out] at hfin
                  subst hfin
                  rw [hb0] at hC
                  have hC' := Lib.hid hC; clear hC ha hpk hb0
                  go_wp2_with fail
                  refine hC'.out.mono ?_
                  rintro e v1 ⟨rfl, rfl⟩
                  go_wp2_with fail
                  go_meet
                  case rel => exact ⟨rfl, rfl⟩
              · obtain rfl : k = r.length := by omega
                have hfin : L.cnt L.inName r = r.length := L.cnt_stop ha.out fun c hc => by
                  rw [List.getElem?_eq_none (Nat.le_refl _)] at hc
                  cases hc
                rw [hq'.out] at hfin
                have j1 : ¬ (r.length : Int) + 1 < (s1.size : Int) := by omega
                clear ha
                go_wp2_with fail
                go_meet
                case rel => exact ⟨by rw [hfin], rfl⟩
          case rest =>
            obtain ⟨rfl, rfl⟩ := hcut
            clear hN'
            have x0 := hX2.out.cell 0
            have x1 := hX2.out.cell 1
            have x2 := hX2.out.cell 2
            have x3 := hX2.out.cell 3
            simp only [tokC, List.getElem?_toArray, List.getElem?_cons_zero, List.getElem?_cons_succ] at x0 x1 x2 x3
            by_cases h1 : q = r.length
            · have hsp := hspec'.out
              rw [if_pos h1] at hsp
              have hT7 := hT6.out
              rw [if_pos (by rw [← hsp]; simp), ← hsp] at hT7
              have hT8 := Lib.hid hT7; clear hT7 hT6 hsp
              have i1 : (q : Int) + 1 = (s1.size : Int) := by omega
              have i1' : ((q : Int) + 1 == (s1.size : Int)) = true := by rw [i1]; simp
              go_wp2_with (refine wpList_store_row rfl 40 (.tmp 2) (.tmp 51) rfl w.heap.size (tokC ka emp emp emp) rfl rfl 40 (tokC emp emp emp emp) hR2.out (sizeTok _ _ _ _) rfl (oneTok _ _ _ _) ?_)
              refine bodyPost_ret (results_row_tmp2 rfl _ _ w.heap.size 40 _ _ rfl (hR2.out.row _) Tryd.underlying40 rfl (sizeTok _ _ _ _)) rfl ?_
              rw [← hT8.out]
              exact ⟨⟨ka, emp, emp, emp, emp, rfl, fun h => absurd h (by decide)⟩, below_row hb2.out (Nat.le_refl _) _⟩
            · have hsp := hspec'.out
              rw [if_neg h1] at hsp
              have i1 : ¬ (q : Int) + 1 = (s1.size : Int) := by omega
              have i1' : ((q : Int) + 1 == (s1.size : Int)) = false := beq_eq_false_iff_ne.2 i1
              have hlt : q + 1 < s1.size := by omega
              have hcr : r[q]? = some (s1[q + 1]'hlt).toNat := by
                have := get_bs s1 (q + 1) hlt
                rw [hr'.out] at this
                simpa using this
              rw [hcr] at hsp
              have j1 : (q : Int) + 1 < (s1.size : Int) := by omega
              have j2 : (0 : Int) ≤ (q : Int) + 1 := by omega
              have j3 : ((q : Int) + 1).toNat = q + 1 := by omega
              clear hcr
              by_cases h2 : q = 0 ∨ (s1[q + 1]'hlt).toNat ≠ 125
              · rw [if_pos (by rcases h2 with h | h; exact .inl h; exact .inr (by simpa using h))] at hsp
                have hT7 := hT6.out
                rw [if_pos (by rw [← hsp]; simp), ← hsp] at hT7
                have hT8 := Lib.hid hT7; clear hT7 hT6 hsp
                by_cases h3 : q = 0
                · have i3 : (q : Int) = 0 := by omega
                  have i3' : ((q : Int) + 1 == 1) = true := by rw [i3]; rfl
                  clear h2
                  go_wp2_with (refine wpList_store_row rfl 40 (.tmp 2) (.tmp 60) rfl w.heap.size (tokC ka emp emp emp) rfl rfl 40 (tokC emp emp emp emp) hR2.out (sizeTok _ _ _ _) rfl (oneTok _ _ _ _) ?_)
                  refine bodyPost_ret (results_row_tmp2 rfl _ _ w.heap.size 40 _ _ rfl (hR2.out.row _) Tryd.underlying40 rfl (sizeTok _ _ _ _)) rfl ?_
                  rw [← hT8.out]
                  exact ⟨⟨ka, emp, emp, emp, emp, rfl, fun h => absurd h (by decide)⟩, below_row hb2.out (Nat.le_refl _) _⟩
                · have h4 : (s1[q + 1]'hlt).toNat ≠ 125 := h2.resolve_left h3
                  have i3' : ((q : Int) + 1 == 1) = false := beq_eq_false_iff_ne.2 (by omega)
                  have i4 : ¬ ((s1[q + 1]'hlt).toNat : Int) = 125 := by omega
                  have i4' : (((s1[q + 1]'hlt).toNat : Int) == 125) = false := beq_eq_false_iff_ne.2 i4
                  clear h2
                  go_wp2_with (refine wpList_store_row rfl 40 (.tmp 2) (.tmp 60) rfl w.heap.size (tokC ka emp emp emp) rfl rfl 40 (tokC emp emp emp emp) hR2.out (sizeTok _ _ _ _) rfl (oneTok _ _ _ _) ?_)
                  refine bodyPost_ret (results_row_tmp2 rfl _ _ w.heap.size 40 _ _ rfl (hR2.out.row _) Tryd.underlying40 rfl (sizeTok _ _ _ _)) rfl ?_
                  rw [← hT8.out]
                  exact ⟨⟨ka, emp, emp, emp, emp, rfl, fun h => absurd h (by decide)⟩, below_row hb2.out (Nat.le_refl _) _⟩
              · have h3 : ¬ q = 0 := fun h => h2 (.inl h)
                have h4 : (s1[q + 1]'hlt).toNat = 125 := Decidable.byContradiction fun h => h2 (.inr h)
                rw [if_neg (by rintro (h | h); exact h3 h; exact h (by rw [h4]))] at hsp
                have i3' : ((q : Int) + 1 == 1) = false := beq_eq_false_iff_ne.2 (by omega)
                have i4 : ((s1[q + 1]'hlt).toNat : Int) = 125 := by omega
                have i4' : (((s1[q + 1]'hlt).toNat : Int) == 125) = true := by rw [i4]; rfl
                have hsp' := Lib.hid hsp
                clear h2 hsp x0 x2 x3
                have f1 := hX2.out.frozen 1
                have hX3 : Hid (Blk (wc.setCell ⟨w.heap.size + 1, 1, none⟩ (.string (s1.extract 1 (q + 1)))).drew (w.heap.size + 1) 40 (tokC ka (s1.extract 1 (q + 1)) emp emp)) := (hX2.out.store 1 _).drew
                have hR3 : Hid (Blk (wc.setCell ⟨w.heap.size + 1, 1, none⟩ (.string (s1.extract 1 (q + 1)))).drew w.heap.size 40 (tokC emp emp emp emp)) := (hR2.out.other (p := ⟨w.heap.size + 1, 1, none⟩) (by show w.heap.size ≠ w.heap.size + 1; omega) _).drew
                have hb3 : Hid (Below w.heap.size w (wc.setCell ⟨w.heap.size + 1, 1, none⟩ (.string (s1.extract 1 (q + 1)))).drew) := (hb2.out.setCell (p := ⟨w.heap.size + 1, 1, none⟩) (Nat.le_succ _) _).drew
                have hxx : bs (s1.extract 1 (q + 1)) = r.take q := by
                  have e : bs (s1.extract 1 (q + 1)) = ((bs s1).take (q + 1)).drop 1 := by
                    unfold bs
                    rw [ByteArray.data_extract, Array.toList_extract, ← List.map_take, ← List.map_drop]
                    simp [List.drop_take]
                  rw [e, hr'.out]; rfl
                have hyy : bs (s1.extract (q + 1 + 1) (r.length + 1)) = r.drop (q + 1) := by rw [← hsz1, bs_extract, hr'.out]; rfl
                have k1 : (1 : Int) ≤ (q : Int) + 1 := by omega
                have k2 : (q : Int) + 1 ≤ (s1.size : Int) := by omega
                have k3 : (q : Int) + 1 + 1 ≤ (s1.size : Int) := by omega
                have k4 : (0 : Int) ≤ (q : Int) + 1 + 1 := by omega
                have k5 : ((q : Int) + 1 + 1).toNat = q + 1 + 1 := by omega
                go_upto_region 16 with fail
                have k6 : IntKind.i64.wrap ((q : Int) + 1 + 1) = (q : Int) + 1 + 1 := IntWalk.i64_in _ (by omega)
                clear hX2 hR2 hb2
                go_region_with (fail)
                all_goals go_wp2_with fail
                all_goals go_meet
                all_goals exact ⟨s1.extract 1 (q + 1), s1.extract (q + 1 + 1) (r.length + 1), rfl, ⟨by rw [← hsp'.out]; exact hyy, by rw [← hsp'.out]; exact hxx, by rw [← hsp'.out]⟩, by rw [← hsz1, size_rest]; omega, hX3, hR3, hb3⟩
      case rest =>
        obtain ⟨na, s2, rfl, hmm, hs2, hX3, hR3, hb3⟩ := hcut
        clear hX2 hR2 hb2 hb' hm'
        have hT7 := hT6.out
        rw [if_neg (by rw [hmm.out.2.2]; simp), ← hmm.out.1] at hT7
        have hna := Lib.hid hmm.out.2.1
        obtain ⟨o, ho⟩ : ∃ o, L.opS (bs s2) = o := ⟨_, rfl⟩
        rw [ho] at hT7
        have ho' := Lib.hid ho; clear ho
        have hT8 := Lib.hid hT7; clear hT7 hT6 hmm
        have hO' := Lib.hid (rops_any wc)
        go_wp2_with fail
        refine hO'.out.mono ?_
        rintro e v4 ⟨rfl, rfl⟩
        clear hO'
        have hOB : Hid (Blk (wc.alloc (.cells (opsB.map Value.string).toArray 9)) wc.heap.size 9 (opsB.map Value.string).toArray) := Blk.new _ _ _
        have hX4 : Hid (Blk (wc.alloc (.cells (opsB.map Value.string).toArray 9)) (w.heap.size + 1) 40 (tokC ka na emp emp)) := hX3.out.alloc _
        have hR4 : Hid (Blk (wc.alloc (.cells (opsB.map Value.string).toArray 9)) w.heap.size 40 (tokC emp emp emp emp)) := hR3.out.alloc _
        have hb4 : Hid (Below w.heap.size w (wc.alloc (.cells (opsB.map Value.string).toArray 9))) := hb3.out.alloc hb3.out.size _
        have hxlt : Hid (w.heap.size + 1 < wc.heap.size) := hX3.out.lt
        clear hX3 hR3 hb3
        generalize wc.alloc (.cells (opsB.map Value.string).toArray 9) = w4 at *
        have hP' := Lib.hid (fun (x : ByteArray) W => Tryd.strings_HasPrefix s2 x W)
        go_upto_block 4 with fail
        go_cut [] (fun wd => (∃ oa : ByteArray, Hid ((o.2.2 = 0 ∧ bs oa = o.1 ∧ (oa.toList == []) = false ∧ o.2.1 = (bs s2).drop oa.size) ∨ (oa = emp ∧ o = ([], [], 82))) ∧ oa.size ≤ s2.size ∧ Hid (Blk wd (w.heap.size + 1) 40 (tokC ka na oa emp)) ∧ Hid (Blk wd w.heap.size 40 (tokC emp emp emp emp)) ∧ Hid (Below w.heap.size w wd)))
        case first =>
          go_wp2_with fail
          go_loopw [8] (fun s8 wr => ∃ (k : Nat) (oa : ByteArray), s8 = .int .i64 k ∧ k ≤ 6 ∧ ((oa = emp ∧ Hid (∀ j y, j < k → opsB[j]? = some y → (bs y).isPrefixOf (bs s2) = false)) ∨ ((oa.toList == []) = false ∧ Hid (o = (bs oa, (bs s2).drop (bs oa).length, 0) ∧ oa.size ≤ s2.size))) ∧ Hid (Blk wr (w.heap.size + 1) 40 (tokC ka na oa emp)) ∧ Hid (Only (fun j => j = w.heap.size + 1) w4 wr)) (fun s8 _ => 6 - (intOf s8).toNat)
          case atStart => exact ⟨0, emp, rfl, by omega, .inl ⟨rfl, fun j y hj => by omega⟩, hX4, Only.refl _ _⟩
          case round =>
            obtain ⟨k, oa, rfl, hk, hor, hX, ho⟩ := hrel
            have hRr : Hid (Blk wr w.heap.size 40 (tokC emp emp emp emp)) := hR4.out.only ho.out (fun e => by have e : w.heap.size = w.heap.size + 1 := e; omega)
            have hbr : Hid (Below w.heap.size w wr) := hb4.out.trans (ho.out.below (fun j e => by have e : j = w.heap.size + 1 := e; omega) hb4.out.size)
            have x2 := hX.out.cell 2
            simp only [tokC, List.getElem?_toArray, List.getElem?_cons_zero, List.getElem?_cons_succ] at x2
            rcases hor with ⟨rfl, hno⟩ | ⟨hne, hf⟩
            · by_cases hk6 : k < 6
              · obtain ⟨x, hx⟩ : ∃ x, opsB[k]? = some x := ⟨_, List.getElem?_eq_getElem (by simpa [opsB] using hk6)⟩
                have hOr : Blk wr wc.heap.size 9 (opsB.map Value.string).toArray := hOB.out.only ho.out (fun e => by have e : wc.heap.size = w.heap.size + 1 := e; have := hxlt.out; omega)
                have c0 : wr.cell? ⟨wc.heap.size, k, none⟩ = some (.string x) := (hOr.cell k).trans (by simp [hx])
                have hC := hP'.out x wr
                have f2 := hX.out.frozen 2
                have ik : (k : Int) < 6 := by omega
                have ik0 : (0 : Int) ≤ (k : Int) := by omega
                have hxn : 0 < x.size := by
                  have : ∀ y ∈ opsB, 0 < y.size := by decide
                  exact this x (List.mem_of_getElem? hx)
                have hx' := Lib.hid hx; clear hx hOr
                have hdr := drop_bs s2 x
                generalize hh : Lib.hasPrefix s2.data.toList x.data.toList = hp at *
                have hC' := Lib.hid hC; clear hC
                rw [prefix_bs] at hh
                cases hp with
                | false =>
                  have hno2 : Hid (∀ j y, j < k + 1 → opsB[j]? = some y → (bs y).isPrefixOf (bs s2) = false) := fun j y hj hy => by
                    rcases Nat.lt_or_ge j k with h | h
                    · exact hno.out j y h hy
                    · obtain rfl : j = k := by omega
                      rw [hx'.out] at hy
                      cases hy
                      exact hh
                  clear hh hno hdr f2
                  go_wp2_with fail
                  refine hC'.out.mono ?_
                  rintro e v2 ⟨rfl, rfl⟩
                  go_wp2_with fail
                  go_roundw
                  case rel => exact ⟨k + 1, emp, by go_num, by omega, .inl ⟨rfl, hno2⟩, hX, ho⟩
                  case measure => simp [intOf]; omega
                | true =>
                  have hspec : o = (bs x, (bs s2).drop (bs x).length, 0) := by
                    rw [← ho'.out]
                    unfold L.opS
                    rw [← opsB_L]
                    have : (opsB.map bs).find? (fun y => y.isPrefixOf (bs s2)) = some (bs x) := find_hit (k := k) (by rw [List.getElem?_map, hx'.out]; rfl) (fun j y hj hy => by
                      rw [List.getElem?_map] at hy
                      cases hq : opsB[j]? with
                      | none => rw [hq] at hy; cases hy
                      | some z =>
                        rw [hq] at hy
                        simp at hy
                        subst hy
                        exact hno.out j z hj hq) hh
                    rw [this]
                  have hxle : x.size ≤ s2.size := by
                    have h1 := List.IsPrefix.length_le (List.isPrefixOf_iff_prefix.1 hh)
                    rwa [length_bs, length_bs] at h1
                  have hsp' : Hid (o = (bs x, (bs s2).drop (bs x).length, 0) ∧ x.size ≤ s2.size) := ⟨hspec, hxle⟩
                  have hX5 : Hid (Blk (wr.setCell ⟨w.heap.size + 1, 2, none⟩ (.string x)) (w.heap.size + 1) 40 (tokC ka na x emp)) := hX.out.store 2 _
                  have ho5 : Hid (Only (fun j => j = w.heap.size + 1) w4 (wr.setCell ⟨w.heap.size + 1, 2, none⟩ (.string x))) := ho.out.setCell (p := ⟨w.heap.size + 1, 2, none⟩) (.inl rfl) _
                  have hne2 : (x.toList == []) = false := list_ne x hxn
                  clear hspec hh hno hdr hX ho hxle
                  go_wp2_with fail
                  refine hC'.out.mono ?_
                  rintro e v2 ⟨rfl, rfl⟩
                  go_wp2_with fail
                  go_roundw
                  case rel => exact ⟨k + 1, x, by go_num, by omega, .inr ⟨hne2, hsp'⟩, hX5, ho5⟩
                  case measure => simp [intOf]; omega
              · obtain rfl : k = 6 := by omega
                have hspec : o = ([], [], 82) := by
                  rw [← ho'.out]
                  unfold L.opS
                  rw [← opsB_L]
                  have hm : (opsB.map bs).find? (fun y => y.isPrefixOf (bs s2)) = none := find_miss fun j y hj hy => by
                    rw [List.getElem?_map] at hy
                    cases hq : opsB[j]? with
                    | none => rw [hq] at hy; cases hy
                    | some z =>
                      rw [hq] at hy
                      simp at hy
                      subst hy
                      exact hno.out j z (by simpa [opsB] using hj) hq
                  rw [hm]
                clear hno
                go_wp2_with fail
                go_meet
                case rel => exact ⟨emp, .inr ⟨rfl, hspec⟩, Nat.zero_le _, hX, hRr, hbr⟩
            · have hfin : Hid ((o.2.2 = 0 ∧ bs oa = o.1 ∧ (oa.toList == []) = false ∧ o.2.1 = (bs s2).drop oa.size) ∨ (oa = emp ∧ o = ([], [], 82))) := .inl (by
                have h1 := hf.out.1
                rw [h1]
                exact ⟨rfl, rfl, hne, by simp only; rw [length_bs]⟩)
              have hole := hf.out.2
              by_cases hk6 : k < 6
              · have ik : (k : Int) < 6 := by omega
                clear hf
                go_wp2_with fail
                go_meet
                case rel => exact ⟨oa, hfin, hole, hX, hRr, hbr⟩
              · obtain rfl : k = 6 := by omega
                clear hf
                go_wp2_with fail
                go_meet
                case rel => exact ⟨oa, hfin, hole, hX, hRr, hbr⟩
        case rest =>
          clear hX4 hR4 hb4 hOB hP' hxlt ho'
          obtain ⟨w6, hw6⟩ : ∃ y : World, y = wc := ⟨_, rfl⟩
          obtain ⟨oa, hor, hole, hX, hR, hb⟩ := hcut
          have x0 := hX.out.cell 0
          have x1 := hX.out.cell 1
          have x2 := hX.out.cell 2
          have x3 := hX.out.cell 3
          simp only [tokC, List.getElem?_toArray, List.getElem?_cons_zero, List.getElem?_cons_succ] at x0 x1 x2 x3
          have il : (oa.size : Int) ≤ (s2.size : Int) := by omega
          rcases hor.out with ⟨h1, h2, h3, h4⟩ | ⟨h1, h2⟩
          · have hT9 := hT8.out
            rw [if_neg (by rw [h1]; simp)] at hT9
            obtain ⟨va, hva⟩ : ∃ va, L.valS o.2.1 = va := ⟨_, rfl⟩
            rw [hva] at hT9
            have hs3s : (s2.extract oa.size s2.size).size ≤ 1000000 := by rw [size_rest]; omega
            have hs3b : bs (s2.extract oa.size s2.size) = o.2.1 := by rw [bs_extract, h4]
            have hP0 := fun W => hasp_one (s2.extract oa.size s2.size) 34 W
            obtain ⟨b, hbb⟩ : ∃ b, decide ((bs (s2.extract oa.size s2.size)).head? = some (UInt8.toNat 34)) = b := ⟨_, rfl⟩
            rw [hbb] at hP0
            have hP1 := Lib.hid hP0; clear hP0
            have hoa := Lib.hid h2; clear h2 h4 hor hT8
            go_upto_region 24 with fail
            generalize s2.extract oa.size s2.size = s3 at *
            rw [← hs3b] at hva
            have hva' := Lib.hid hva; clear hva hs3b il hole
            have hT10 := Lib.hid hT9; clear hT9
            cases b with
            | false =>
              have hh : (bs s3).head? ≠ some 34 := of_decide_eq_false hbb
              have hspec : va = ([], [], 82) := by
                rw [← hva'.out]
                cases h : bs s3 with
                | nil => rfl
                | cons a r =>
                  rw [h] at hh
                  simp at hh
                  unfold L.valS
                  split
                  · rename_i e; simp at e; exact absurd e.1 hh
                  · rfl
              have hT11 := hT10.out
              rw [if_pos (by rw [hspec]; simp), hspec] at hT11
              have hT' := Lib.hid hT11; clear hT11 hT10 hspec hh hbb
              go_wp2_with fail
              refine (hP1.out _).mono ?_
              rintro e v5 ⟨rfl, rfl⟩
              go_wp2_with (refine wpList_store_row rfl 40 (.tmp 2) (.tmp 105) rfl w.heap.size (tokC ka na oa emp) rfl rfl 40 (tokC emp emp emp emp) hR.out (sizeTok _ _ _ _) rfl (oneTok _ _ _ _) ?_)
              refine bodyPost_ret (results_row_tmp2 rfl _ _ w.heap.size 40 _ _ rfl (hR.out.row _) Tryd.underlying40 rfl (sizeTok _ _ _ _)) rfl ?_
              rw [← hT'.out]
              exact ⟨⟨ka, na, oa, emp, emp, rfl, fun h => absurd h (by decide)⟩, below_row hb.out (Nat.le_refl _) _⟩
            | true =>
              have hh : (bs s3).head? = some 34 := of_decide_eq_true hbb
              obtain ⟨r, hr⟩ : ∃ r, bs s3 = 34 :: r := by
                cases h : bs s3 with
                | nil => rw [h] at hh; cases hh
                | cons a r => rw [h] at hh; simp at hh; subst hh; exact ⟨r, rfl⟩
              have hv0 : L.valGo [] ((bs s3).drop 1) = va := by rw [← hva'.out, hr]; rfl
              have hs3p : 1 ≤ s3.size := by rw [← length_bs, hr]; simp
              have hv0' := Lib.hid hv0; clear hv0 hh hbb hr hva' r
              have hle' := Lib.hid (bs_le s3)
              have hxlt2 : Hid (w.heap.size + 1 < w6.heap.size) := by rw [hw6]; exact hX.out.lt
              have hws : Hid (w.heap.size ≤ w6.heap.size) := by rw [hw6]; exact hb.out.size
              clear x0 x1 x3
              obtain ⟨i0, hi0, hz0, hz1, hz2⟩ := info_parts info_u8
              have hi0' := Lib.hid hi0; clear hi0
              have hz0' := Lib.hid hz0; clear hz0
              have hz1' := Lib.hid hz1; clear hz1
              have hz2' := Lib.hid hz2; clear hz2
              go_wp2_with fail
              refine (hP1.out _).mono ?_
              rintro e v5 ⟨rfl, rfl⟩
              clear hP1 x2
              obtain rfl : w6 = v5 := hw6
              go_wp2_with fail
              go_loopw [9, 10] (fun s9 s10 wr => ∃ (k : Nat) (acc : List Nat), s10 = .int .i64 k ∧ 1 ≤ k ∧ k ≤ s3.size ∧ acc.length ≤ k ∧ Hid (∀ c, c ∈ acc → c ≤ 255) ∧ Hid (L.valGo acc ((bs s3).drop k) = va) ∧ Hid (TextRow wr w6.heap.size s9 acc) ∧ Hid (Blk wr (w.heap.size + 1) 40 (tokC ka na oa emp)) ∧ Hid (Blk wr w.heap.size 40 (tokC emp emp emp emp)) ∧ Hid (Below w.heap.size w wr) ∧ Hid (w6.heap.size ≤ wr.heap.size)) (fun _ s10 _ => s3.size - (intOf s10).toNat)
              case atStart => exact ⟨1, [], rfl, by omega, hs3p, by simp, fun c hc => (by cases hc), hv0', World.ownsRow_nil _ _ _ _, hX, hR, hb, Nat.le_refl _⟩
              case round =>
                clear hv0' hX hR hb
                obtain ⟨k, acc, rfl, hk1, hk, hak, hal, hv, hrow, hX, hR, hb, hsw⟩ := hrel
                by_cases hkl : k < s3.size
                · have ik : (k : Int) < (s3.size : Int) := by omega
                  have ik0 : (0 : Int) ≤ (k : Int) := by omega
                  have hkr : k < (bs s3).length := by rw [length_bs]; omega
                  have hgk : (bs s3)[k]? = some (s3[k]'hkl).toNat := get_bs s3 k hkl
                  have hgk2 : (bs s3)[k]'hkr = (s3[k]'hkl).toNat := (List.getElem?_eq_some_iff.1 hgk).2
                  have hd : (bs s3).drop k = (s3[k]'hkl).toNat :: (bs s3).drop (k + 1) := (List.drop_eq_getElem_cons hkr).trans (by rw [hgk2])
                  clear hgk2
                  have hv1 := hv.out
                  rw [hd] at hv1
                  by_cases h34 : (s3[k]'hkl).toNat = 34
                  · have i34 : ((s3[k]'hkl).toNat : Int) = 34 := by omega
                    have e34 : (((s3[k]'hkl).toNat : Int) == 34) = true := by rw [i34]; rfl
                    rw [h34, valGo_q] at hv1
                    have hcv := hrow.out.conv
                    have hbs : bs (strOfNums (acc.map fun c : Nat => (c : Int))) = acc := bs_nums hal.out
                    generalize strOfNums (acc.map fun c : Nat => (c : Int)) = st at *
                    have hbs' := Lib.hid hbs; clear hbs
                    have hv1' := Lib.hid hv1; clear hv1 hv
                    have hkn : (k : Int) + 1 ≤ (s3.size : Int) := by omega
                    have hk0 : (0 : Int) ≤ (k : Int) + 1 := by omega
                    have hkt : ((k : Int) + 1).toNat = k + 1 := by omega
                    have x3 := hX.out.cell 3
                    have f3 := hX.out.frozen 3
                    simp only [tokC, List.getElem?_toArray, List.getElem?_cons_zero, List.getElem?_cons_succ] at x3
                    have hX7 : Hid (Blk (wr.setCell ⟨w.heap.size + 1, 3, none⟩ (.string st)) (w.heap.size + 1) 40 (tokC ka na oa st)) := hX.out.store 3 _
                    have hR7 : Hid (Blk (wr.setCell ⟨w.heap.size + 1, 3, none⟩ (.string st)) w.heap.size 40 (tokC emp emp emp emp)) := hR.out.other (p := ⟨w.heap.size + 1, 3, none⟩) (by show w.heap.size ≠ w.heap.size + 1; omega) _
                    have hb7 : Hid (Below w.heap.size w (wr.setCell ⟨w.heap.size + 1, 3, none⟩ (.string st))) := hb.out.setCell (p := ⟨w.heap.size + 1, 3, none⟩) (Nat.le_succ _) _
                    clear hal hrow hd hgk h34 hX hR hb hsw
                    go_upto_region 32 with fail
                    generalize wr.setCell ⟨w.heap.size + 1, 3, none⟩ (.string st) = w7 at *
                    clear x3 f3 hcv
                    have x0 := hX7.out.cell 0
                    have x1 := hX7.out.cell 1
                    have x2 := hX7.out.cell 2
                    have x3 := hX7.out.cell 3
                    have y0 := hR7.out.cell 0
                    have y1 := hR7.out.cell 1
                    have y2 := hR7.out.cell 2
                    have y3 := hR7.out.cell 3
                    have f0 := hR7.out.frozen 0
                    have f1 := hR7.out.frozen 1
                    have f2 := hR7.out.frozen 2
                    have f3 := hR7.out.frozen 3
                    simp only [tokC, List.getElem?_toArray, List.getElem?_cons_zero, List.getElem?_cons_succ] at x0 x1 x2 x3 y0 y1 y2 y3
                    have kw : IntKind.i64.wrap ((k : Int) + 1) = (k : Int) + 1 := IntWalk.i64_in _ (by omega)
                    have hR9 : Hid (Blk ((((w7.setCell ⟨w.heap.size, 0, none⟩ (.string ka)).setCell ⟨w.heap.size, 1, none⟩ (.string na)).setCell ⟨w.heap.size, 2, none⟩ (.string oa)).setCell ⟨w.heap.size, 3, none⟩ (.string st)).drew w.heap.size 40 (tokC ka na oa st)) := ((((hR7.out.store 0 _).store 1 _).store 2 _).store 3 _).drew
                    have hb9 : Hid (Below w.heap.size w ((((w7.setCell ⟨w.heap.size, 0, none⟩ (.string ka)).setCell ⟨w.heap.size, 1, none⟩ (.string na)).setCell ⟨w.heap.size, 2, none⟩ (.string oa)).setCell ⟨w.heap.size, 3, none⟩ (.string st)).drew) := ((((hb7.out.setCell (p := ⟨w.heap.size, 0, none⟩) (Nat.le_refl _) _).setCell (p := ⟨w.heap.size, 1, none⟩) (Nat.le_refl _) _).setCell (p := ⟨w.heap.size, 2, none⟩) (Nat.le_refl _) _).setCell (p := ⟨w.heap.size, 3, none⟩) (Nat.le_refl _) _).drew
                    clear hR7 hb7 hX7
                    have hT11 := hT10.out
                    rw [if_neg (by rw [← hv1'.out]; simp)] at hT11
                    have hT' := Lib.hid hT11; clear hT11 hT10
                    go_region_with (fail)
                    go_wp2_with fail
                    refine bodyPost_ret (results_row_tmp2 rfl _ _ w.heap.size 40 _ _ rfl hR9.out Tryd.underlying40 rfl (sizeTok _ _ _ _)) rfl ?_
                    rw [← hT'.out]
                    refine ⟨⟨ka, na, oa, st, s3.extract (k + 1) s3.size, by rw [← hv1'.out]; rfl, fun _ => ⟨hka'.out, hna.out, hoa.out, ?_, ?_⟩⟩, hb9.out⟩
                    · rw [← hv1'.out]; exact hbs'.out
                    · rw [← hv1'.out, bs_extract]
                  · have i34 : ¬ ((s3[k]'hkl).toNat : Int) = 34 := by omega
                    have e34 : (((s3[k]'hkl).toNat : Int) == 34) = false := beq_eq_false_iff_ne.2 i34
                    by_cases h9 : (s3[k]'hkl).toNat = 9
                    · have i9 : ((s3[k]'hkl).toNat : Int) = 9 := by omega
                      have e9 : (((s3[k]'hkl).toNat : Int) == 9) = true := by rw [i9]; rfl
                      rw [h9, valGo_t] at hv1
                      have hT11 := hT10.out
                      rw [if_pos (by rw [← hv1]; simp), ← hv1] at hT11
                      have hT' := Lib.hid hT11; clear hT11 hT10
                      have x0 := hX.out.cell 0
                      have x1 := hX.out.cell 1
                      have x2 := hX.out.cell 2
                      have x3 := hX.out.cell 3
                      simp only [tokC, List.getElem?_toArray, List.getElem?_cons_zero, List.getElem?_cons_succ] at x0 x1 x2 x3
                      clear hal hrow hd hgk h9 h34 hX hv1 hv
                      go_wp2_with (refine wpList_store_row rfl 40 (.tmp 2) (.tmp 128) rfl w.heap.size (tokC ka na oa emp) rfl rfl 40 (tokC emp emp emp emp) hR.out (sizeTok _ _ _ _) rfl (oneTok _ _ _ _) ?_)
                      refine bodyPost_ret (results_row_tmp2 rfl _ _ w.heap.size 40 _ _ rfl (hR.out.row _) Tryd.underlying40 rfl (sizeTok _ _ _ _)) rfl ?_
                      rw [← hT'.out]
                      exact ⟨⟨ka, na, oa, emp, emp, rfl, fun h => absurd h (by decide)⟩, below_row hb.out (Nat.le_refl _) _⟩
                    · have i9 : ¬ ((s3[k]'hkl).toNat : Int) = 9 := by omega
                      have e9 : (((s3[k]'hkl).toNat : Int) == 9) = false := beq_eq_false_iff_ne.2 i9
                      have hP := Tryd.strings_HasPrefix (s3.extract k s3.size) ⟨#[92, 34]⟩ wr
                      have hpx : Lib.hasPrefix (s3.extract k s3.size).data.toList [92, 34] = ([92, 34] : List Nat).isPrefixOf ((bs s3).drop k) := by
                        have := prefix_bs (s3.extract k s3.size) ⟨#[92, 34]⟩
                        rw [bs_extract] at this
                        exact this
                      generalize hhp : Lib.hasPrefix (s3.extract k s3.size).data.toList [92, 34] = hp at *
                      have hwr := hsw.out
                      have hxa : Hid (∀ (o : Obj) (w1' : World), (wr.alloc o).grownBy w1' u9.ownBlock → Blk w1' (w.heap.size + 1) 40 (tokC ka na oa emp) ∧ Blk w1' w.heap.size 40 (tokC emp emp emp emp) ∧ Below w.heap.size w w1' ∧ w6.heap.size ≤ w1'.heap.size) := fun o w1' hg => by
                        have hlt := hxlt2.out
                        have hlt2 := hws.out
                        have hXl := hX.out.lt
                        have hne : ∀ j, j < w6.heap.size → some j ≠ u9.ownBlock := fun j hj e => by have := hrow.out.lt _ e.symm; omega
                        refine ⟨(hX.out.alloc o).same (hg.block _ (by simp; omega) (hne _ hlt)), (hR.out.alloc o).same (hg.block _ (by simp; omega) (hne _ (by omega))), ?_, Nat.le_trans (by simp; omega) hg.size⟩
                        exact (hb.out.alloc hb.out.size _).grown hg (by simp; have := hb.out.size; omega) (fun k e => by have := hrow.out.lt _ e; omega)
                      cases hp with
                      | true =>
                        have h92 : (s3[k]'hkl).toNat = 92 ∧ ∃ r2, (bs s3).drop (k + 1) = 34 :: r2 := by
                          rw [hd] at hpx
                          cases hq : (bs s3).drop (k + 1) with
                          | nil => rw [hq] at hpx; simp [List.isPrefixOf] at hpx
                          | cons a r2 =>
                            rw [hq] at hpx
                            simp [List.isPrefixOf] at hpx
                            exact ⟨hpx.1.symm, r2, by rw [← hpx.2]⟩
                        obtain ⟨h92, r2, hr2⟩ := h92
                        have hk1r : k + 1 < (bs s3).length := by
                          rcases Nat.lt_or_ge (k + 1) (bs s3).length with h | h
                          · exact h
                          · rw [List.drop_eq_nil_of_le h] at hr2; cases hr2
                        have hk1s : k + 1 < s3.size := by rwa [length_bs] at hk1r
                        have hdd := List.drop_eq_getElem_cons hk1r
                        rw [hr2] at hdd
                        have h34b : (s3[k + 1]'hk1s).toNat = 34 := by
                          have h1 := get_bs s3 (k + 1) hk1s
                          rw [List.getElem?_eq_getElem hk1r] at h1
                          rw [← Option.some.inj h1]
                          exact (List.cons.inj hdd).1.symm
                        have h2r : r2 = (bs s3).drop (k + 2) := (List.cons.inj hdd).2
                        rw [h92, hr2, valGo_e, h2r] at hv1
                        have hv1' := Lib.hid hv1; clear hv1 hv
                        have hP' := Lib.hid hP; clear hP
                        have ik1 : (k : Int) + 1 < (s3.size : Int) := by omega
                        have ik10 : (0 : Int) ≤ (k : Int) + 1 := by omega
                        have hn1 : ((k : Int) + 1).toNat = k + 1 := by omega
                        have h34c : ((s3[k + 1]'hk1s).toNat : Int) = 34 := by omega
                        clear h92 hr2 hdd h2r hpx hd hgk h34 h9 hhp h34b hX hR hb hk1r
                        go_wp2_with fail
                        refine hP'.out.mono ?_
                        rintro e v2 ⟨rfl, rfl⟩
                        go_wp2_with (at_builtin; refine wpList_append_own _ rfl (.tmp 135) (.tmp 139) 66 rfl w6.heap.size 5 i0 (.int .u8 0) 1 1 Tryd.underlying66 hi0'.out hz0'.out hz1'.out hz2'.out rfl (by decide) u9 acc.length (acc.map fun c : Nat => Value.int .u8 c) rfl (own_below hrow.out (Below.alloc (Below.refl _ _) (Nat.le_refl _) _)) ⟨v2.heap.size, 0, none⟩ 1 1 [.int .u8 34] rfl rfl (cell_one_new _ _ _) (by intro u hu; simp at hu; subst hu; rfl) (by simp only [maxLen]; omega) (by omega) (by simp; omega) ?_; intro v' w1' hown' hgrow _)
                        go_roundw
                        case rel =>
                          obtain ⟨g1, g2, g3, g4⟩ := hxa.out _ _ hgrow
                          refine ⟨k + 2, acc ++ [34], by go_num, by omega, by omega, by simp; omega, ?_, hv1', ?_, g1, g2, g3, g4⟩
                          · intro c hc
                            rcases List.mem_append.1 hc with hc | hc
                            · exact hal.out c hc
                            · simp at hc; subst hc; decide
                          · show TextRow w1' _ _ _
                            unfold TextRow
                            rw [List.map_append, List.length_append]
                            exact hown'
                        case measure => simp [intOf]; omega
                      | false =>
                        rw [valGo_c _ _ _ h34 h9 (by rw [← hd, ← hpx])] at hv1
                        have hv1' := Lib.hid hv1; clear hv1 hv
                        have hP' := Lib.hid hP; clear hP
                        have hc255 : (s3[k]'hkl).toNat ≤ 255 := by have := (s3[k]'hkl).toNat_lt; omega
                        clear hpx hd hgk h34 h9 hhp hX hR hb
                        go_wp2_with fail
                        refine hP'.out.mono ?_
                        rintro e v2 ⟨rfl, rfl⟩
                        go_wp2_with (at_builtin; refine wpList_append_own _ rfl (.tmp 135) (.tmp 139) 66 rfl w6.heap.size 5 i0 (.int .u8 0) 1 1 Tryd.underlying66 hi0'.out hz0'.out hz1'.out hz2'.out rfl (by decide) u9 acc.length (acc.map fun c : Nat => Value.int .u8 c) rfl (own_below hrow.out (Below.alloc (Below.refl _ _) (Nat.le_refl _) _)) ⟨v2.heap.size, 0, none⟩ 1 1 [.int .u8 ((s3[k]'hkl).toNat : Int)] rfl rfl (cell_one_new _ _ _) (by intro u hu; simp at hu; subst hu; rfl) (by simp only [maxLen]; omega) (by omega) (by simp; omega) ?_; intro v' w1' hown' hgrow _)
                        go_roundw
                        case rel =>
                          obtain ⟨g1, g2, g3, g4⟩ := hxa.out _ _ hgrow
                          refine ⟨k + 1, acc ++ [(s3[k]'hkl).toNat], by go_num, by omega, by omega, by simp; omega, ?_, hv1', ?_, g1, g2, g3, g4⟩
                          · intro c hc
                            rcases List.mem_append.1 hc with hc | hc
                            · exact hal.out c hc
                            · simp at hc; subst hc; exact hc255
                          · show TextRow w1' _ _ _
                            unfold TextRow
                            rw [List.map_append, List.length_append]
                            exact hown'
                        case measure => simp [intOf]; omega
                · obtain rfl : k = s3.size := by omega
                  have hv1 := hv.out
                  rw [List.drop_eq_nil_of_le (by rw [length_bs]; omega), valGo_nil] at hv1
                  have hT11 := hT10.out
                  rw [if_pos (by rw [← hv1]; simp), ← hv1] at hT11
                  have hT' := Lib.hid hT11; clear hT11 hT10
                  have x0 := hX.out.cell 0
                  have x1 := hX.out.cell 1
                  have x2 := hX.out.cell 2
                  have x3 := hX.out.cell 3
                  simp only [tokC, List.getElem?_toArray, List.getElem?_cons_zero, List.getElem?_cons_succ] at x0 x1 x2 x3
                  clear hal hrow hX hv1 hv
                  go_wp2_with (refine wpList_store_row rfl 40 (.tmp 2) (.tmp 141) rfl w.heap.size (tokC ka na oa emp) rfl rfl 40 (tokC emp emp emp emp) hR.out (sizeTok _ _ _ _) rfl (oneTok _ _ _ _) ?_)
                  refine bodyPost_ret (results_row_tmp2 rfl _ _ w.heap.size 40 _ _ rfl (hR.out.row _) Tryd.underlying40 rfl (sizeTok _ _ _ _)) rfl ?_
                  rw [← hT'.out]
                  exact ⟨⟨ka, na, oa, emp, emp, rfl, fun h => absurd h (by decide)⟩, below_row hb.out (Nat.le_refl _) _⟩
          · subst h1
            have hT9 := hT8.out
            rw [if_pos (by rw [h2]; simp), h2] at hT9
            have hT' := Lib.hid hT9; clear hT9 hT8 hor
            have e1 : ((emp : ByteArray).toList == []) = true := list_emp rfl
            have hz : (emp : ByteArray).size = 0 := rfl
            go_wp2_with (refine wpList_store_row rfl 40 (.tmp 2) (.tmp 105) rfl w.heap.size (tokC ka na emp emp) rfl rfl 40 (tokC emp emp emp emp) hR.out (sizeTok _ _ _ _) rfl (oneTok _ _ _ _) ?_)
            refine bodyPost_ret (results_row_tmp2 rfl _ _ w.heap.size 40 _ _ rfl (hR.out.row _) Tryd.underlying40 rfl (sizeTok _ _ _ _)) rfl ?_
            rw [← hT'.out]
            exact ⟨⟨ka, na, emp, emp, emp, rfl, fun h => absurd h (by decide)⟩, below_row hb.out (Nat.le_refl _) _⟩

end Go.Proofs.YtofemhaepadggaaDoor
